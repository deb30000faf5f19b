/- Decode: what its end needs. -/
import Derived.Test.YtpbkdjnogjmfcaaMayc
import Derived.Laws.ResultCell
import Derived.Test.YtpbkdjnogjmfcaaRefSum
import Derived.Test.YtpbkdjnogjmfcaaApd
import Derived.IntWalk
namespace Go.Proofs.Ytpbkdjnogjmfcaa
open Go.RowKit Go.ChangeMaps

theorem shaL_hl (xs : List W8) : arr 32 (fun i => .int .u8 (ub (shaB xs i))) = hl32 (shaL xs) :=
  arr_congr (fun i hi => by rw [List.getD_eq_getElem?_getD]; simp [shaL, hi])
theorem shaSum_l {w : World} {v : Value} {xs : List W8} (hv : Bytes w v xs) (hbig : xs.length < 100000000) :
    Calls Try.prog 17 #[v] w fun e w' => e = .returned (.agg (hl32 (shaL xs))) ∧ Below w.heap.size w w' := by
  have := shaSum_c0 hv hv.lt hbig
  rwa [shaL_hl] at this
theorem refSum_l {w : World} {v : Value} {xs : List W8} (hv : Bytes w v xs) (hbig : xs.length < 100000) :
    Calls Try.prog 20 #[v] w fun e w' => e = .returned (.agg (hl32 (shaL xs))) ∧ Below w.heap.size w w' := by
  have := refSum_c hv hbig
  rwa [shaL_hl] at this
theorem tHash_len (t : Tp) : (tHash t).1.length = 32 := by
  rcases tBytes_len 32 t with h | h
  · have : (tHash t).1 = (tBytes 32 t).1 := if_neg (by omega)
    rw [this]; exact h
  · have : (tHash t).1 = zero32 := if_pos (by rw [h]; decide)
    rw [this]; rfl
theorem results_strm {fn : Func} {p u : Tmp} {ty : TypeId} (h : fn.results = #[.cell p ty, .tmp u]) (tmps : Array Value) (w : World) (g : Nat) (cs : Array Value) (v3 : Value)
    (hp : tmps.getD p undef = .pointer (some ⟨g, 0, none⟩)) (hv : tmps.getD u undef = v3) (hl : (loadVar ty ⟨g, 0, none⟩).run Try.prog w = .ok (.agg cs) w) :
    (results fn tmps).run Try.prog w = .ok (.tuple #[.agg cs, v3]) w := by
  rw [results_cell_tmp h, hp, hv]
  simp [asAddr, hl, Result.andThen]
theorem load_strm {w : World} {b : Nat} {T : TypeId} {s : Strm} {cv : Value} (F : Fn w b T 69 (sf s cv)) {ty : TypeId} {d : TypeDesc} (hu : Try.prog.underlying ty = some d) (hd : d.isRow = true) (hi : (Try.prog.info? ty).map (·.size) = some 69) : (loadVar ty ⟨b, 0, none⟩).run Try.prog w = .ok (.agg (strmV s cv)) w := by
  have := run_loadVar_mid (P := Try.prog) w b 0 ty (strmV s cv).toList d (F.range' (strmV s cv) (strmV_size _ _) (fun j hj => strmV_get _ _ hj)) hu hd (by rw [hi, Array.length_toList, strmV_size])
  simpa using this
theorem run_store_strm {ρ : Operand → Value} {o : Oper} {x y : Operand} {g : Nat} {cells : Array Value} {w : World} {T : TypeId} (ho : o.op = .store T x y) (hx : ρ x = .pointer (some ⟨g, 0, none⟩)) (hy : ρ y = .agg cells) (ht : w.there g 0 cells.size) (hi : (Try.prog.info? T).map (·.size) = some cells.size) (h1 : cells.all (·.oneCell') = true) :
    (execOp ρ o).run Try.prog w = .ok .skip (w.setCells g 0 cells.toList) := by
  unfold execOp
  simp only [ho, hx, hy, Instr.storeAt, Instr.sureAddr, Sem.run_bind, Sem.run_pure, Result.andThen_ok, run_storeVar_mid (P := Try.prog) w g 0 T cells ht hi h1]
theorem decS_eq {xs : List W8} {m : W8 × Tp} {t0 : Tp} {na nb nc hp hg : List W8 × Tp} {sn : Nat × Tp} {cs : List (Int × List W8) × Tp} {h9 : List W8 × Tp} {t9 : Tp} (h5 : ¬ 5000 < xs.length) (e1 : m = tByte (xs, 0)) (e2 : t0 = tFail (decide (m.1 ≠ 70) && decide (m.1 ≠ 73)) m.2)
    (e3 : na = tName t0) (e4 : nb = tName na.2) (e5 : nc = tName nb.2) (e6 : hp = tHash nc.2) (e7 : hg = tHash hp.2) (e8 : sn = tShort 16 hg.2) (e9 : cs = tCells sn.1 [] sn.2) (e10 : h9 = tHash cs.2) (e11 : t9 = tFail (decide (0 < h9.2.1.length)) h9.2) :
    decS xs = if t9.2 = 0 then (if shaL (xs.take (xs.length - cs.2.1.length)) = h9.1 then (if mayS ⟨decide (m.1 = 73), na.1, nb.1, nc.1, hp.1, hg.1, cs.1⟩ then (0, ⟨decide (m.1 = 73), na.1, nb.1, nc.1, hp.1, hg.1, cs.1⟩) else (3, Strm.zero)) else (14, Strm.zero)) else (t9.2, Strm.zero) := by
  subst e11 e10 e9 e8 e7 e6 e5 e4 e3 e2 e1
  exact if_neg h5
theorem decS_long {xs : List W8} (h5 : 5000 < xs.length) : decS xs = (4, Strm.zero) := if_pos h5
theorem tcs_get (ts : List Tr) {i : Nat} (h : i < ts.length) : cellAt (tcs ts) i = (ts[i].1, ts[i].2.1) := by
  unfold cellAt tcs
  rw [List.getD_eq_getElem?_getD, List.getElem?_map, List.getElem?_eq_getElem h]; rfl
/-- The cells of the function's own, as they are read. -/
theorem Cs.read {T : TypeId} {G : World → Value → List W8 → Prop} {w : World} {base : Nat} {v : Value} {ts : List Tr} (h : Cs T G w base v ts) (hG : ∀ v xs, G w v xs → Bytes w v xs) (hlen : ts.length ≤ 1000) : CellsAt w v (tcs ts) := by
  have hl : (tcs ts).length = ts.length := by unfold tcs; rw [List.length_map]
  rcases h.1.2 with ⟨rfl, h0⟩ | ⟨g, cap, cur, rfl, _, h2, h3, h4, h5, h6⟩
  · exact ⟨none, 0, by rw [hl, h0], by unfold maxLen; omega, fun hh => by omega⟩
  · refine ⟨_, cap, by rw [hl], by unfold maxLen; omega, fun _ => ⟨g, 0, rfl, (Array.getElem?_eq_some_iff.1 h2).1, by omega, fun i hi => ?_⟩⟩
    rw [hl] at hi
    have hb : Blk w g cur T := h2
    obtain ⟨k1, k2⟩ := flatC_get ts i hi
    have cell : ∀ j x, j < ts.length * 2 → (flatC ts)[j]? = some x → w.cell? ⟨g, j, none⟩ = some x := fun j x hj hx => by
      refine hb.cellv ?_
      rw [← Array.getElem?_toList, ← List.getElem?_take_of_lt hj, h6]; exact hx
    rw [tcs_get ts hi, Nat.zero_add]
    exact ⟨ts[i].2.2, cell _ _ (by omega) k1, cell _ _ (by omega) k2, hG _ _ (h.2 _ (List.getElem_mem hi)).1⟩
end Go.Proofs.Ytpbkdjnogjmfcaa

/- The program's Decode. -/
namespace Go.Proofs.Ytpbkdjnogjmfcaa
open Go.RowKit Go.ChangeMaps

theorem tName_le (t : Tp) : (tName t).2.1.length ≤ t.1.length := Nat.le_trans (tBytes_le _ _) (tShort_le 12 t).2
theorem tHash_le (t : Tp) : (tHash t).2.1.length ≤ t.1.length := tBytes_le 32 t
theorem Rd.cell0 {T : TypeId} {w : World} {r : Nat} {N : Nat → Prop} {t : Tp} (h : Rd T w r N t) : ∃ p c, w.cell? ⟨r, 0, none⟩ = some (.slice p t.1.length c) := by
  obtain ⟨vb, B, hb, _⟩ := h
  obtain ⟨p, c, rfl⟩ := hb.len
  exact ⟨p, c, B.cellv rfl⟩
theorem tCell_le (t : Tp) : (tCell t).2.1.length ≤ t.1.length := by
  have h1 := tByte_le t
  have h2 := tByte_le (tByte t).2
  have h3 := tBytes_le 256 (tByte (tByte t).2).2
  by_cases h67 : (tByte (tByte t).2).1 = 67
  · rw [tCell_C h67]; dsimp only; omega
  · by_cases h72 : (tByte (tByte t).2).1 = 72
    · rw [tCell_H h72]; dsimp only; omega
    · rw [tCell_X h67 h72]; show (tFail _ _).1.length ≤ _; rw [tFail_fst]; omega
theorem sf_set (s : Strm) (cv : Value) (x : List W8) : ∀ j, set1 (sf s cv) 1 (.string (str x)) j = sf { s with set := x } cv j := by
  intro j; unfold set1 sf
  by_cases e : j = 1
  · subst e; rfl
  · simp only [if_neg e]
theorem sf_frm (s : Strm) (cv : Value) (x : List W8) : ∀ j, set1 (sf s cv) 2 (.string (str x)) j = sf { s with frm := x } cv j := by
  intro j; unfold set1 sf
  by_cases e : j = 2
  · subst e; rfl
  · simp only [if_neg e]
theorem sf_til (s : Strm) (cv : Value) (x : List W8) : ∀ j, set1 (sf s cv) 3 (.string (str x)) j = sf { s with til := x } cv j := by
  intro j; unfold set1 sf
  by_cases e : j = 3
  · subst e; rfl
  · simp only [if_neg e]
theorem sf_cells (s : Strm) (cv cv' : Value) : ∀ j, j < 69 → set1 (sf s cv) 68 cv' j = sf s cv' j := by
  intro j hj; unfold set1 sf
  by_cases e : j = 68
  · subst e; rfl
  · simp only [if_neg e]
    repeat' split
    all_goals first | rfl | omega
theorem fn_base {w : World} {b : Nat} {T : TypeId} {s : Strm} {cv : Value} (F : Fn w b T 69 (sf s cv)) (x : List W8) : Fn (w.setCells b 4 (hl32 x).toList) b T 69 (sf { s with base := x } cv) :=
  Fn.setCells _ 4 w _ F _ (fun j hj => by
    have hj' : j < 32 := by simpa [hl32_size] using hj
    rw [Array.getElem?_toList, hl32_get _ hj']
    unfold sf
    rw [if_neg (by omega), if_neg (by omega), if_neg (by omega), if_neg (by omega), if_pos (by omega), show 4 + j - 4 = j by omega]) (fun j _ hj => by
    have hj' : j < 4 ∨ 36 ≤ j := by simpa [hl32_size] using hj
    unfold sf
    repeat' split
    all_goals first | rfl | omega)
theorem fn_goal {w : World} {b : Nat} {T : TypeId} {s : Strm} {cv : Value} (F : Fn w b T 69 (sf s cv)) (x : List W8) : Fn (w.setCells b 36 (hl32 x).toList) b T 69 (sf { s with goal := x } cv) :=
  Fn.setCells _ 36 w _ F _ (fun j hj => by
    have hj' : j < 32 := by simpa [hl32_size] using hj
    rw [Array.getElem?_toList, hl32_get _ hj']
    unfold sf
    rw [if_neg (by omega), if_neg (by omega), if_neg (by omega), if_neg (by omega), if_neg (by omega), if_pos (by omega), show 36 + j - 36 = j by omega]) (fun j _ hj => by
    have hj' : j < 36 ∨ 68 ≤ j := by simpa [hl32_size] using hj
    unfold sf
    repeat' split
    all_goals first | rfl | omega)
/-- What a walk through Decode knows: the reader r, the result's variable b2, the stream's b6. -/
structure DS (T R : TypeId) (w0 : World) (r b2 b6 : Nat) (N : Nat → Prop) (t : Tp) (s : Strm) (cv : Value) (wr : World) : Prop where
  below : Below w0.heap.size w0 wr
  rd : Rd R wr r N t
  f2 : Fn wr b2 T 69 (sf Strm.zero (.slice none 0 0))
  f6 : Fn wr b6 T 69 (sf s cv)
  r0 : w0.heap.size ≤ r
  h2 : w0.heap.size ≤ b2
  h6 : w0.heap.size ≤ b6
  r2 : r ≠ b2
  r6 : r ≠ b6
  n26 : b2 ≠ b6
  N6 : N b6
  Nr : N r
  hN : ∀ k, N k → k < wr.heap.size
section
variable {T R : TypeId} {w0 wr w2 : World} {r b2 b6 : Nat} {N : Nat → Prop} {t t' : Tp} {s s' : Strm} {cv cv' : Value}
theorem DS.call (h : DS T R w0 r b2 b6 N t s cv wr) (R2 : Rd R w2 r N t') (M : Mod (fun k => k = r) wr w2) : DS T R w0 r b2 b6 N t' s cv w2 :=
  { h with below := h.below.trans (M.below h.below.size (fun k hk e => by have := h.r0; omega)), rd := R2, f2 := h.f2.mod M (Ne.symm h.r2), f6 := h.f6.mod M (Ne.symm h.r6), hN := fun k hk => Nat.lt_of_lt_of_le (h.hN k hk) M.size }
theorem DS.six (h : DS T R w0 r b2 b6 N t s cv wr) (M : Mod (fun k => k = b6) wr w2) (F : Fn w2 b6 T 69 (sf s' cv')) : DS T R w0 r b2 b6 N t s' cv' w2 :=
  { h with below := h.below.trans (M.below h.below.size (fun k hk e => by have := h.h6; omega)), rd := h.rd.mod M h.r6 (fun k hk => by rw [hk]; exact h.N6), f2 := h.f2.mod M h.n26, f6 := F, hN := fun k hk => Nat.lt_of_lt_of_le (h.hN k hk) M.size }
theorem DS.cell (h : DS T R w0 r b2 b6 N t s cv wr) {j : Nat} (hj : j < 69) : wr.cell? ⟨b6, j, none⟩ = some (sf s cv j) ∧ wr.frozen? ⟨b6, j, none⟩ = false := ⟨h.f6.cell hj, h.f6.frozen j⟩
theorem Mod.one (w : World) (b : Nat) (j : Nat) (v : Value) : Mod (fun k => k = b) w (w.setCell ⟨b, j, none⟩ v) := (Mod.refl (fun k => k = b) w).setCell (p := ⟨b, j, none⟩) (fun _ => rfl) v
theorem Mod.cells (w : World) (b : Nat) (o : Nat) (vs : List Value) : Mod (fun k => k = b) w (w.setCells b o vs) := Mod.setCells (S := fun k => k = b) vs o w (Mod.refl _ w) (fun _ => rfl)
theorem DS.set (h : DS T R w0 r b2 b6 N t s cv wr) (x : List W8) : DS T R w0 r b2 b6 N t { s with set := x } cv (wr.setCell ⟨b6, 1, none⟩ (.string (str x))) := h.six (Mod.one _ _ _ _) ((h.f6.set 1 _).congr (fun j _ => (sf_set s cv x j).symm))
theorem DS.frm (h : DS T R w0 r b2 b6 N t s cv wr) (x : List W8) : DS T R w0 r b2 b6 N t { s with frm := x } cv (wr.setCell ⟨b6, 2, none⟩ (.string (str x))) := h.six (Mod.one _ _ _ _) ((h.f6.set 2 _).congr (fun j _ => (sf_frm s cv x j).symm))
theorem DS.til (h : DS T R w0 r b2 b6 N t s cv wr) (x : List W8) : DS T R w0 r b2 b6 N t { s with til := x } cv (wr.setCell ⟨b6, 3, none⟩ (.string (str x))) := h.six (Mod.one _ _ _ _) ((h.f6.set 3 _).congr (fun j _ => (sf_til s cv x j).symm))
theorem DS.base (h : DS T R w0 r b2 b6 N t s cv wr) (x : List W8) : DS T R w0 r b2 b6 N t { s with base := x } cv (wr.setCells b6 4 (hl32 x).toList) := h.six (Mod.cells _ _ _ _) (fn_base h.f6 x)
theorem DS.goal (h : DS T R w0 r b2 b6 N t s cv wr) (x : List W8) : DS T R w0 r b2 b6 N t { s with goal := x } cv (wr.setCells b6 36 (hl32 x).toList) := h.six (Mod.cells _ _ _ _) (fn_goal h.f6 x)
theorem DS.drew (h : DS T R w0 r b2 b6 N t s cv wr) : DS T R w0 r b2 b6 N t s cv wr.drew := { h with below := h.below.drew, rd := h.rd, f2 := h.f2, f6 := h.f6, hN := h.hN }
theorem DS.alloc (h : DS T R w0 r b2 b6 N t s cv wr) (o : Obj) : DS T R w0 r b2 b6 N t s cv (wr.alloc o) :=
  { h with below := h.below.alloc h.below.size o, rd := h.rd.below ((Below.refl _ wr).alloc (Nat.le_refl _) o), f2 := h.f2.alloc o, f6 := h.f6.alloc o, hN := fun k hk => by have := h.hN k hk; simp; omega }
theorem DS.cells (h : DS T R w0 r b2 b6 N t s cv wr) (v : Value) : DS T R w0 r b2 b6 N t s v (wr.setCell ⟨b6, 68, none⟩ v) := h.six (Mod.one _ _ _ _) ((h.f6.set 68 v).congr (fun j hj => (sf_cells s cv v j hj).symm))
theorem DS.fresh (h : DS T R w0 r b2 b6 N t s cv wr) (o : Obj) : DS T R w0 r b2 b6 (fun k => N k ∨ k = wr.heap.size) t s cv (wr.alloc o) :=
  { h with below := h.below.alloc h.below.size o, rd := (h.rd.grow (fun k hk => by rcases hk with hk | hk; exact Or.inl hk; exact Or.inr (by omega))).below ((Below.refl _ wr).alloc (Nat.le_refl _) o), f2 := h.f2.alloc o, f6 := h.f6.alloc o, N6 := Or.inl h.N6, Nr := Or.inl h.Nr, hN := (fun k hk => by
      rcases hk with hk | hk
      · have := h.hN k hk; simp; omega
      · simp; omega) }
theorem DS.far (h : DS T R w0 r b2 b6 N t s cv wr) {b8 : Nat} (h8 : N b8) (M : Mod (fun k => k = b8) wr w2) (hr : r ≠ b8) (h2 : b2 ≠ b8) (h6 : b6 ≠ b8) (hb : w0.heap.size ≤ b8) : DS T R w0 r b2 b6 N t s cv w2 :=
  { h with below := h.below.trans (M.below h.below.size (fun k hk e => by omega)), rd := h.rd.mod M hr (fun k hk => by rw [hk]; exact h8), f2 := h.f2.mod M h2, f6 := h.f6.mod M h6, hN := fun k hk => Nat.lt_of_lt_of_le (h.hN k hk) M.size }
theorem DS.quiet (h : DS T R w0 r b2 b6 N t s cv wr) (hb : Below wr.heap.size wr w2) : DS T R w0 r b2 b6 N t s cv w2 :=
  { h with below := h.below.trans (hb.mono h.below.size), rd := h.rd.below hb, f2 := h.f2.below hb h.f2.lt, f6 := h.f6.below hb h.f6.lt, hN := fun k hk => Nat.lt_of_lt_of_le (h.hN k hk) hb.size }
/-- The result is laid. -/
theorem DS.lay (h : DS T R w0 r b2 b6 N t s cv wr) (s' : Strm) (cv' : Value) : Fn (wr.setCells b2 0 (strmV s' cv').toList) b2 T 69 (sf s' cv') ∧ Below w0.heap.size w0 (wr.setCells b2 0 (strmV s' cv').toList) ∧ Mod (fun k => k = b2) wr (wr.setCells b2 0 (strmV s' cv').toList) :=
  ⟨h.f2.storeAll _, h.below.trans ((Mod.cells wr b2 0 _).below h.below.size (fun k hk e => by have := h.h2; omega)), Mod.cells wr b2 0 _⟩
/-- The row of cells has grown. -/
theorem DS.app {A : Nat → Prop} {base : Nat} {v v' : Value} {xs : List Value} {n : Nat} {U : TypeId} (h : DS T R w0 r b2 b6 (fun k => A k ∨ v.ownBlock = some k) t s cv wr) (O : wr.ownsRow base U 2 v n xs) (hb : w0.heap.size ≤ base) (M : Mod (fun k => v.ownBlock = some k) wr w2) (hv : v'.ownBlock = v.ownBlock ∨ v'.ownBlock = some wr.heap.size)
    (hlt : ∀ k, v'.ownBlock = some k → k < w2.heap.size) (hT : U ≠ T) (hR : U ≠ R) (hAr : A r) (hA6 : A b6) : DS T R w0 r b2 b6 (fun k => A k ∨ v'.ownBlock = some k) t s cv w2 := by
  have nr : v.ownBlock ≠ some r := by obtain ⟨_, B, _⟩ := h.rd; exact ownsRow_blk O B hR
  exact { h with
    below := h.below.trans (M.below h.below.size (fun k hk e => by have := (ownsRow_lt O k e).1; omega))
    rd := ((h.rd.grow (N' := fun k => (A k ∨ v.ownBlock = some k) ∨ v'.ownBlock = some k) (fun k hk => by
      rcases hk with hk | hk
      · exact Or.inl hk
      · rcases hv with hv | hv
        · rw [hv] at hk; exact Or.inl (Or.inr hk)
        · rw [hv] at hk
          have : wr.heap.size = k := Option.some.inj hk
          exact Or.inr (by omega))).mod M nr (fun k hk => Or.inl (Or.inr hk))).grow (fun k hk => by
      rcases hk with hk | hk
      · exact Or.inl (Or.inl (Or.inl hk))
      · exact Or.inl (Or.inr hk))
    f2 := h.f2.mod M (ownsRow_fn O h.f2 hT)
    f6 := h.f6.mod M (ownsRow_fn O h.f6 hT)
    N6 := Or.inl hA6
    Nr := Or.inl hAr
    hN := fun k hk => by
      rcases hk with hk | hk
      · exact Nat.lt_of_lt_of_le (h.hN k (Or.inl hk)) M.size
      · exact hlt k hk }
end
set_option maxRecDepth 100000 in
set_option maxHeartbeats 4000000 in
theorem decode_c {w : World} {v : Value} {xs : List W8} (hB : Bytes w v xs) (hl : xs.length ≤ 5100) :
    Calls Try.prog 14 #[v] w fun e w' => ∃ cv ts, e = .returned (.tuple #[.agg (strmV (decS xs).2 cv), .int .i64 (decS xs).1]) ∧ (decS xs).2.cells = tcs ts ∧ Cs 44 (fun u v xs => Ow u w.heap.size v xs) w' w.heap.size cv ts ∧ Below w.heap.size w w' := by
  obtain ⟨zs, hzs⟩ : ∃ zs, zs = strmV Strm.zero (.slice none 0 0) := ⟨_, rfl⟩
  have hz : ∀ W : World, (zeroValue 25).run Try.prog W = .ok (.agg zs) W := by rw [hzs]; exact strm_zero
  have hsz := hid (show zs.size = 69 by rw [hzs]; exact strmV_size _ _)
  have hso := hid (show zs.all (·.oneCell') = true by rw [hzs]; exact strmV_one _ _ rfl)
  have HB := hid hB
  have hlt := hid hB.lt
  obtain ⟨p, cap, rfl, _⟩ := hB
  have HL := hid hl
  by_cases h5 : 5000 < xs.length
  · have FZ := hid (show Fn (w.alloc (.cells zs 25)) w.heap.size 25 69 (sf Strm.zero (.slice none 0 0)) by rw [hzs]; exact Fn.arr w _ 69 _)
    have HD := hid (decS_long h5)
    have HZ := hid hzs
    clear hzs
    go_enter Try.func14, Try.ntmps14
    go_wp2_with ((with_reducible refine at_op (.store 25 (.tmp 2) (.tmp 12)) rfl ?_); refine wpList_store_mid rfl 25 (.tmp 2) (.tmp 12) rfl w.heap.size 0 zs rfl rfl (there_set FZ.out hsz.out) (by rw [hsz.out]; kernel_rfl) hso.out ?_)
    have FL : Fn ((w.alloc (.cells zs 25)).setCells w.heap.size 0 zs.toList) w.heap.size 25 69 (sf Strm.zero (.slice none 0 0)) := by
      have h := HZ.out
      have h2 := FZ.out.storeAll (sf Strm.zero (.slice none 0 0))
      rw [h] at h2 ⊢; exact h2
    have BL : Below w.heap.size w ((w.alloc (.cells zs 25)).setCells w.heap.size 0 zs.toList) :=
      ((Below.refl _ w).alloc (Nat.le_refl _) _).trans ((Mod.cells _ w.heap.size 0 _).below (by simp) (fun k hk e => by omega))
    refine bodyPost_ret (v := .tuple #[.agg (strmV Strm.zero (.slice none 0 0)), .int .i64 4]) (results_strm (p := 2) (u := 3) (ty := 25) rfl _ _ w.heap.size _ _ rfl rfl (load_strm FL Try.underlying25 rfl (by kernel_rfl))) rfl ⟨.slice none 0 0, [], by rw [HD.out], by rw [HD.out]; rfl, Cs.nil _ _ _ _, BL⟩
  · obtain ⟨w1, hw1⟩ : ∃ w1, w1 = w.alloc (.cells zs 25) := ⟨_, rfl⟩
    have L1 := hid (show Below w.heap.size w w1 by rw [hw1]; exact (Below.refl _ w).alloc (Nat.le_refl _) _)
    have F1 := hid (show Fn w1 w.heap.size 25 69 (sf Strm.zero (.slice none 0 0)) by rw [hw1, hzs]; exact Fn.arr w _ 69 _)
    have hs1 := hid (show w1.heap.size = w.heap.size + 1 by rw [hw1]; simp)
    have HZ := hid hzs
    clear hzs
    go_enter Try.func14, Try.ntmps14
    go_upto_region 4 with fail
    rw [← hw1]
    have B1 := hid (Blk.new w1 #[.slice p xs.length cap, .int .i64 0] 55)
    have L2 := hid ((Below.refl w1.heap.size w1).alloc (Nat.le_refl _) (.cells #[.slice p xs.length cap, .int .i64 0] 55))
    have R1 := hid (show Rd 55 (w1.alloc (.cells #[.slice p xs.length cap, .int .i64 0] 55)) w1.heap.size (fun k => k = w1.heap.size) (xs, 0) from
      ⟨_, B1.out, (HB.out.below L1.out).below L2.out, fun h0 k hk e => by have := hlt.out h0 k hk; have := hs1.out; omega⟩)
    have C1 := hid (rdByte_c R1.out (fun k e => by rw [e]; exact B1.out.lt) rfl (by show xs.length ≤ 100000; omega))
    obtain ⟨m, hm⟩ : ∃ m, m = tByte (xs, 0) := ⟨_, rfl⟩
    have hdm := hid (show decS xs = decS xs from rfl)
    rw [← hm] at C1
    have hm' := hid hm
    have hml := hid (show m.2.1.length ≤ xs.length from by rw [hm]; exact tByte_le _)
    obtain ⟨x, hx⟩ : ∃ x, x = m.1 := ⟨_, rfl⟩
    rw [← hx] at C1
    have hx' := hid hx
    obtain ⟨hx0, hx1⟩ := ub_bd x
    clear hw1 hm hx hl
    rw [← hs1.out]
    go_upto_region 5 with (go_at_call 24; ((with_reducible refine C1.out.mono ?_); rintro e w2 ⟨rfl, R2, M2⟩); have R2' := hid R2; have M2' := hid M2; clear R2 M2)
    obtain ⟨t0, ht0⟩ : ∃ t0, t0 = tFail (decide (x ≠ 70) && decide (x ≠ 73)) m.2 := ⟨_, rfl⟩
    have ht0' := hid ht0
    have HT := hid (show x = 70 ∨ x = 73 → m.2 = t0 from fun h => by rw [ht0]; rcases h with h | h <;> subst h <;> exact (if_neg (fun h => by cases h.1)).symm)
    have HF := hid (show ¬ x = 70 → ¬ x = 73 → tFail true m.2 = t0 from fun h h' => by rw [ht0, decide_eq_true h, decide_eq_true h']; rfl)
    clear ht0 hdm
    go_cut [] from 18 to 25 (fun wr => Hid (Rd 55 wr w1.heap.size (fun k => k = w1.heap.size) t0) ∧ Hid (Mod (fun k => k = w1.heap.size) w2 wr))
    case first =>
      have CF := hid (fun is => rdFail_c R2'.out rfl is)
      by_cases h70 : x = 70
      · have e70 : (ub x != 70) = false := by rw [h70]; rfl
        have HT1 := hid (HT.out (Or.inl h70))
        clear h70
        go_wp2_with (go_at_call 25; ((with_reducible refine (CF.out false).mono ?_); rintro e w3 ⟨rfl, R3, M3⟩); rw [show tFail false m.2 = m.2 from if_neg (fun h => by cases h.1), HT1.out] at R3; have R3' := hid R3; have M3' := hid M3; clear R3 M3)
        go_meet
        case rel => exact ⟨R3', M3'⟩
      · have e70 : (ub x != 70) = true := by simp; exact fun h => h70 (ub_inj h)
        by_cases h73 : x = 73
        · have e73 : (ub x != 73) = false := by rw [h73]; rfl
          have HT1 := hid (HT.out (Or.inr h73))
          clear h70 h73
          go_wp2_with (go_at_call 25; ((with_reducible refine (CF.out false).mono ?_); rintro e w3 ⟨rfl, R3, M3⟩); rw [show tFail false m.2 = m.2 from if_neg (fun h => by cases h.1), HT1.out] at R3; have R3' := hid R3; have M3' := hid M3; clear R3 M3)
          go_meet
          case rel => exact ⟨R3', M3'⟩
        · have e73 : (ub x != 73) = true := by simp; exact fun h => h73 (ub_inj h)
          have HT1 := hid (HF.out h70 h73)
          clear h70 h73
          go_wp2_with (go_at_call 25; ((with_reducible refine (CF.out true).mono ?_); rintro e w3 ⟨rfl, R3, M3⟩); rw [HT1.out] at R3; have R3' := hid R3; have M3' := hid M3; clear R3 M3)
          go_meet
          case rel => exact ⟨R3', M3'⟩
    case rest =>
      obtain ⟨wb, rfl⟩ : ∃ wb : World, wb = wc := ⟨_, rfl⟩
      obtain ⟨R3, M3⟩ := hcut
      obtain ⟨q, hq⟩ : ∃ q, q = decide (x = 73) := ⟨_, rfl⟩
      have e73 : (ub x == 73) = q := by rw [hq, Bool.eq_iff_iff]; simp; exact ⟨fun h => ub_inj h, fun h => by rw [h]; rfl⟩
      have hq' := hid hq
      clear hq
      have FZ := hid (show Fn (wb.alloc (.cells zs 25)) wb.heap.size 25 69 (sf Strm.zero (.slice none 0 0)) by rw [HZ.out]; exact Fn.arr wb _ 69 _)
      have hwc := hid (show w1.heap.size < wb.heap.size from R3.out.lt)
      obtain ⟨s0, hs0⟩ : ∃ s0 : Strm, s0 = ⟨q, [], [], [], zero32, zero32, []⟩ := ⟨_, rfl⟩
      have hbt := hid (show Try.prog.built 25 [(0, .bool q)] = some (strmV s0 (.slice none 0 0)) by rw [hs0]; exact strm_built q)
      have D0 := hid (show DS 25 55 w w1.heap.size w.heap.size wb.heap.size (fun k => k = w1.heap.size ∨ k = wb.heap.size) t0 s0 (.slice none 0 0) ((wb.alloc (.cells zs 25)).setCells wb.heap.size 0 (strmV s0 (.slice none 0 0)).toList) from by
        have e1 := hs1.out
        have e2 := hwc.out
        have La : Below wb.heap.size wb (wb.alloc (.cells zs 25)) := (Below.refl _ wb).alloc (Nat.le_refl _) _
        have MC := Mod.cells (wb.alloc (.cells zs 25)) wb.heap.size 0 (strmV s0 (.slice none 0 0)).toList
        have Bc : Below w.heap.size w wb := (L1.out.trans (L2.out.mono (by omega))).trans ((M2'.out.trans M3.out).below (by have := L2.out.size; omega) (fun k hk e => by omega))
        have Ra := (R3.out.grow (N' := fun k => k = w1.heap.size ∨ k = wb.heap.size) (fun k hk => by rcases hk with hk | hk; exact Or.inl hk; exact Or.inr (by omega))).below La
        have F2a : Fn wb w.heap.size 25 69 (sf Strm.zero (.slice none 0 0)) := ((F1.out.below L2.out (by omega)).mod M2'.out (by omega)).mod M3.out (by omega)
        exact {
          below := (Bc.trans (La.mono (by omega))).trans (MC.below (by simp; omega) (fun k hk e => by omega))
          rd := Ra.mod MC (by omega) (fun k hk => Or.inr hk)
          f2 := (F2a.alloc _).mod MC (by omega)
          f6 := FZ.out.storeAll _
          r0 := by omega
          h2 := by omega
          h6 := by omega
          r2 := by omega
          r6 := by omega
          n26 := by omega
          N6 := Or.inr rfl
          Nr := Or.inl rfl
          hN := fun k hk => by
            have h1 := MC.size
            simp at h1 ⊢
            rcases hk with hk | hk <;> omega })
      have hso0 := hid (strmV_one s0 (.slice none 0 0) rfl)
      have hin := hid (show s0 = ⟨q, [], [], [], zero32, zero32, []⟩ from hs0)
      clear hs0
      have hset := hid (show zs.setIfInBounds 0 (.bool q) = strmV s0 (.slice none 0 0) from by
        rw [HZ.out, hin.out]; exact strm_set q)
      have hz69 : ¬ zs = #[] := fun e => by have := hsz.out; rw [e] at this; cases this
      go_upto_region 7 with (refine wpList_store_mid rfl 25 (.tmp 6) (.tmp 28) rfl wb.heap.size 0 (zs.setIfInBounds 0 (.bool q)) rfl rfl (by rw [hset.out]; exact there_set FZ.out (strmV_size _ _)) (by rw [hset.out, strmV_size]; kernel_rfl) (by rw [hset.out]; exact hso0.out) ?_)
      rw [hset.out]
      clear hz69
      obtain ⟨w4, hw4⟩ : ∃ w4, w4 = (wb.alloc (.cells zs 25)).setCells wb.heap.size 0 (strmV s0 (.slice none 0 0)).toList := ⟨_, rfl⟩
      rw [← hw4] at D0 ⊢
      clear hw4
      simp only [Act.put]
      have hl0 : t0.1.length ≤ xs.length := by rw [ht0'.out, tFail_fst]; exact hml.out
      obtain ⟨na, hna⟩ : ∃ na, na = tName t0 := ⟨_, rfl⟩
      have hla : na.2.1.length ≤ xs.length := by rw [hna]; exact Nat.le_trans (tName_le _) hl0
      obtain ⟨nb, hnb⟩ : ∃ nb, nb = tName na.2 := ⟨_, rfl⟩
      have hlb : nb.2.1.length ≤ xs.length := by rw [hnb]; exact Nat.le_trans (tName_le _) hla
      obtain ⟨nc, hnc⟩ : ∃ nc, nc = tName nb.2 := ⟨_, rfl⟩
      have hlc : nc.2.1.length ≤ xs.length := by rw [hnc]; exact Nat.le_trans (tName_le _) hlb
      obtain ⟨hp, hhp⟩ : ∃ hp, hp = tHash nc.2 := ⟨_, rfl⟩
      have hlp : hp.2.1.length ≤ xs.length := by rw [hhp]; exact Nat.le_trans (tHash_le _) hlc
      obtain ⟨hg, hhg⟩ : ∃ hg, hg = tHash hp.2 := ⟨_, rfl⟩
      have hlg : hg.2.1.length ≤ xs.length := by rw [hhg]; exact Nat.le_trans (tHash_le _) hlp
      obtain ⟨sn, hsn⟩ : ∃ sn, sn = tShort 16 hg.2 := ⟨_, rfl⟩
      have hls : sn.2.1.length ≤ xs.length := by rw [hsn]; exact Nat.le_trans (tShort_le _ _).2 hlg
      have hsn16 : sn.1 ≤ 16 := by rw [hsn]; exact (tShort_le _ _).1
      have CA := hid (fun (W : World) (D : DS 25 55 w w1.heap.size w.heap.size wb.heap.size (fun k => k = w1.heap.size ∨ k = wb.heap.size) t0 s0 (.slice none 0 0) W) => (hna ▸ rdName_c D.rd D.hN D.Nr (by omega) : Calls Try.prog 26 #[.pointer (some ⟨w1.heap.size, 0, none⟩)] W fun e w' => e = .returned (.string (str na.1)) ∧ Rd 55 w' w1.heap.size (fun k => k = w1.heap.size ∨ k = wb.heap.size) na.2 ∧ Mod (fun k => k = w1.heap.size) W w'))
      have CB := hid (fun (W : World) (D : DS 25 55 w w1.heap.size w.heap.size wb.heap.size (fun k => k = w1.heap.size ∨ k = wb.heap.size) na.2 s0 (.slice none 0 0) W) => (hnb ▸ rdName_c D.rd D.hN D.Nr (by omega) : Calls Try.prog 26 #[.pointer (some ⟨w1.heap.size, 0, none⟩)] W fun e w' => e = .returned (.string (str nb.1)) ∧ Rd 55 w' w1.heap.size (fun k => k = w1.heap.size ∨ k = wb.heap.size) nb.2 ∧ Mod (fun k => k = w1.heap.size) W w'))
      have CC := hid (fun (W : World) (D : DS 25 55 w w1.heap.size w.heap.size wb.heap.size (fun k => k = w1.heap.size ∨ k = wb.heap.size) nb.2 s0 (.slice none 0 0) W) => (hnc ▸ rdName_c D.rd D.hN D.Nr (by omega) : Calls Try.prog 26 #[.pointer (some ⟨w1.heap.size, 0, none⟩)] W fun e w' => e = .returned (.string (str nc.1)) ∧ Rd 55 w' w1.heap.size (fun k => k = w1.heap.size ∨ k = wb.heap.size) nc.2 ∧ Mod (fun k => k = w1.heap.size) W w'))
      have HA := hid (And.intro hna (And.intro hnb (And.intro hnc (And.intro hhp (And.intro hhg hsn)))))
      clear hna hnb hnc hhp hhg hsn
      go_upto_region 8 with (first
        | (go_at_call 26; ((with_reducible refine (CC.out _ D2.out).mono ?_); rintro e w7 ⟨rfl, R7, M7⟩); have D3 := hid (D2.out.call R7 M7); obtain ⟨c1, f1⟩ := D3.out.cell (j := 1) (by decide); obtain ⟨c2, f2⟩ := D3.out.cell (j := 2) (by decide); obtain ⟨c3, f3⟩ := D3.out.cell (j := 3) (by decide); clear R7 M7)
        | (go_at_call 26; ((with_reducible refine (CB.out _ D1.out).mono ?_); rintro e w6 ⟨rfl, R6, M6⟩); have D2 := hid (D1.out.call R6 M6); clear R6 M6)
        | (go_at_call 26; ((with_reducible refine (CA.out _ D0.out).mono ?_); rintro e w5 ⟨rfl, R5, M5⟩); have D1 := hid (D0.out.call R5 M5); clear R5 M5))
      obtain ⟨s1, hs1d⟩ : ∃ s1, s1 = { s0 with set := na.1, frm := nb.1, til := nc.1 } := ⟨_, rfl⟩
      have D4 := hid (show DS 25 55 w w1.heap.size w.heap.size wb.heap.size (fun k => k = w1.heap.size ∨ k = wb.heap.size) nc.2 s1 (.slice none 0 0) (((w7.setCell ⟨wb.heap.size, 1, none⟩ (.string (str na.1))).setCell ⟨wb.heap.size, 2, none⟩ (.string (str nb.1))).setCell ⟨wb.heap.size, 3, none⟩ (.string (str nc.1))) from by
        rw [hs1d]; exact ((D3.out.set na.1).frm nb.1).til nc.1)
      have hs1' := hid hs1d
      obtain ⟨w8, hw8⟩ : ∃ w8, w8 = (((w7.setCell ⟨wb.heap.size, 1, none⟩ (.string (str na.1))).setCell ⟨wb.heap.size, 2, none⟩ (.string (str nb.1))).setCell ⟨wb.heap.size, 3, none⟩ (.string (str nc.1))) := ⟨_, rfl⟩
      rw [← hw8] at D4 ⊢
      clear hw8 hs1d c1 c2 c3 f1 f2 f3 CA CB CC D0 D1 D2 D3
      have hhp := HA.out.2.2.2.1
      have hhg := HA.out.2.2.2.2.1
      have hsn := HA.out.2.2.2.2.2
      have CP := hid (fun (W : World) (D : DS 25 55 w w1.heap.size w.heap.size wb.heap.size (fun k => k = w1.heap.size ∨ k = wb.heap.size) nc.2 s1 (.slice none 0 0) W) => (hhp ▸ rdHash_c D.rd D.hN D.Nr (by omega) : Calls Try.prog 27 #[.pointer (some ⟨w1.heap.size, 0, none⟩)] W fun e w' => e = .returned (.agg (hl32 hp.1)) ∧ Rd 55 w' w1.heap.size (fun k => k = w1.heap.size ∨ k = wb.heap.size) hp.2 ∧ Mod (fun k => k = w1.heap.size) W w'))
      have CG := hid (fun (W : World) (D : DS 25 55 w w1.heap.size w.heap.size wb.heap.size (fun k => k = w1.heap.size ∨ k = wb.heap.size) hp.2 s1 (.slice none 0 0) W) => (hhg ▸ rdHash_c D.rd D.hN D.Nr (by omega) : Calls Try.prog 27 #[.pointer (some ⟨w1.heap.size, 0, none⟩)] W fun e w' => e = .returned (.agg (hl32 hg.1)) ∧ Rd 55 w' w1.heap.size (fun k => k = w1.heap.size ∨ k = wb.heap.size) hg.2 ∧ Mod (fun k => k = w1.heap.size) W w'))
      have CS := hid (fun (W : World) (s : Strm) (D : DS 25 55 w w1.heap.size w.heap.size wb.heap.size (fun k => k = w1.heap.size ∨ k = wb.heap.size) hg.2 s (.slice none 0 0) W) => (hsn ▸ rdShort_c D.rd D.hN D.Nr (by omega) 16 (by decide) : Calls Try.prog 28 #[.pointer (some ⟨w1.heap.size, 0, none⟩), .int .i64 16] W fun e w' => e = .returned (.int .i64 sn.1) ∧ Rd 55 w' w1.heap.size (fun k => k = w1.heap.size ∨ k = wb.heap.size) sn.2 ∧ Mod (fun k => k = w1.heap.size) W w'))
      clear hhp hhg hsn
      have h32s := hid (fun ys : List W8 => show (Try.prog.info? 22).map (·.size) = some (hl32 ys).size from by rw [hl32_size]; kernel_rfl)
      go_upto_region 9 with (first
        | ((with_reducible refine at_op (.store 22 (.tmp 42) (.tmp 39)) rfl ?_); refine wpList_store_mid rfl 22 (.tmp 42) (.tmp 39) rfl wb.heap.size 4 (hl32 hp.1) (by rfl) (by rfl) (by rw [hl32_size]; exact D6.out.f6.there 4 32 (by decide)) (h32s.out hp.1) (hl32_one hp.1) ?_; have D7 := hid (D6.out.base hp.1))
        | ((with_reducible refine at_op (.store 22 (.tmp 43) (.tmp 41)) rfl ?_); refine wpList_store_mid rfl 22 (.tmp 43) (.tmp 41) rfl wb.heap.size 36 (hl32 hg.1) (by rfl) (by rfl) (by rw [hl32_size]; exact D7.out.f6.there 36 32 (by decide)) (h32s.out hg.1) (hl32_one hg.1) ?_; have D8 := hid (D7.out.goal hg.1))
        | (go_at_call 27; ((with_reducible refine (CG.out _ D5.out).mono ?_); rintro e w10 ⟨rfl, R7, M7⟩); have D6 := hid (D5.out.call R7 M7); clear R7 M7)
        | (go_at_call 27; ((with_reducible refine (CP.out _ D4.out).mono ?_); rintro e w9 ⟨rfl, R6, M6⟩); have D5 := hid (D4.out.call R6 M6); clear R6 M6))
      obtain ⟨s2, hs2d⟩ : ∃ s2, s2 = { s1 with base := hp.1, goal := hg.1 } := ⟨_, rfl⟩
      obtain ⟨w11, hw11⟩ : ∃ w11, w11 = (w10.setCells wb.heap.size 4 (hl32 hp.1).toList).setCells wb.heap.size 36 (hl32 hg.1).toList := ⟨_, rfl⟩
      have D9 := hid (show DS 25 55 w w1.heap.size w.heap.size wb.heap.size (fun k => k = w1.heap.size ∨ k = wb.heap.size) hg.2 s2 (.slice none 0 0) w11 from by rw [hs2d, hw11]; exact D8.out)
      rw [← hw11]
      have hs2' := hid hs2d
      clear hw11 hs2d CP CG D4 D5 D6 D7 D8
      simp only [Act.put]
      obtain ⟨cs, hcs⟩ : ∃ cs, cs = tCells sn.1 [] sn.2 := ⟨_, rfl⟩
      have hcs' := hid hcs
      clear hcs
      go_upto_block 0 with (go_at_call 28; ((with_reducible refine (CS.out _ _ D9.out).mono ?_); rintro e w12 ⟨rfl, R7, M7⟩); have D10 := hid (D9.out.call R7 M7); clear R7 M7)
      clear CS D9
      go_cut [] from 46 to 60 (fun wr => ∃ cv ts, Hid (cs.1 = tcs ts) ∧ Hid (cs.2.1.length ≤ xs.length) ∧ Hid (ts.length ≤ 16) ∧ Hid (DS 25 55 w w1.heap.size w.heap.size wb.heap.size (fun k => (k = w1.heap.size ∨ k = wb.heap.size) ∨ cv.ownBlock = some k) cs.2 s2 cv wr) ∧ Hid (Cs 44 (fun w' v xs => Ow w' w.heap.size v xs) wr w.heap.size cv ts))
      case first =>
        go_upto_region 10 with fail
        go_loopg [46] sn.1 (fun g v46 wr => ∃ (i : Nat) (cv : Value) (ts : List Tr) (t : Tp), v46 = .int .i64 i ∧ g = sn.1 - i ∧ i ≤ sn.1 ∧ Hid (cs = tCells (sn.1 - i) (tcs ts) t) ∧ Hid (ts.length = i) ∧ Hid (t.1.length ≤ xs.length) ∧ Hid (DS 25 55 w w1.heap.size w.heap.size wb.heap.size (fun k => (k = w1.heap.size ∨ k = wb.heap.size) ∨ cv.ownBlock = some k) t s2 cv wr) ∧ Hid (Cs 44 (fun w' v xs => Ow w' w.heap.size v xs) wr w.heap.size cv ts))
        case atStart => exact ⟨0, .slice none 0 0, [], sn.2, rfl, rfl, Nat.zero_le _, hid (by rw [hcs'.out]; rfl), hid rfl, hid hls, hid { D10.out with rd := D10.out.rd.grow (fun k hk => by rcases hk with hk | hk; exact Or.inl hk; cases hk), N6 := Or.inl (Or.inr rfl), Nr := Or.inl (Or.inl rfl), hN := fun k hk => by rcases hk with hk | hk; exact D10.out.hN k hk; cases hk }, hid (Cs.nil _ _ _ _)⟩
        case round =>
          obtain ⟨i, cv, ts, t, rfl, hg, hi, HC, HL2, HT, DD, OC⟩ := hrel
          clear hcs' D10
          have c1 := DD.out.rd.cell1
          by_cases hin2 : i < sn.1
          · have hini : (i : Int) < (sn.1 : Int) := by omega
            by_cases he : t.2 = 0
            · rw [he] at c1
              have HC1 := hid (show cs = tCells (sn.1 - (i + 1)) (tcs ts ++ [(tCell t).1]) (tCell t).2 from by
                rw [HC.out, show sn.1 - i = (sn.1 - (i + 1)) + 1 by omega]; exact if_pos he)
              have CE := hid (fun (W : World) (R : Rd 55 W w1.heap.size (fun k => (k = w1.heap.size ∨ k = wb.heap.size) ∨ cv.ownBlock = some k) t) (hn : ∀ k, ((k = w1.heap.size ∨ k = wb.heap.size) ∨ cv.ownBlock = some k) → k < W.heap.size) => rdCell_c R hn (Or.inl (Or.inl rfl)) (by have := HT.out; omega))
              obtain ⟨cv68, _⟩ := DD.out.cell (j := 68) (by decide)
              have c68 : wr.cell? ⟨wb.heap.size, 68, none⟩ = some cv := cv68
              clear he cv68 HC
              go_upto_region 12 with fail
              obtain ⟨y, hy⟩ : ∃ y, y = (tCell t).1.1 := ⟨_, rfl⟩
              obtain ⟨B, hBd⟩ : ∃ B, B = (tCell t).1.2 := ⟨_, rfl⟩
              obtain ⟨t', ht'⟩ : ∃ t', t' = (tCell t).2 := ⟨_, rfl⟩
              rw [← ht'] at HC1
              have HC2 := hid (show cs = tCells (sn.1 - (i + 1)) (tcs ts ++ [(y, B)]) t' from by rw [HC1.out, hy, hBd])
              have HT2 := hid (show t'.1.length ≤ xs.length from by rw [ht']; exact Nat.le_trans (tCell_le t) HT.out)
              rw [← ht', ← hy, ← hBd] at CE
              clear hy hBd ht' HC1
              obtain ⟨i0, hi0, hz0, hz1, hz2⟩ := info_parts infoC
              have HI := hid (And.intro hi0 (And.intro hz0 (And.intro hz1 hz2)))
              clear hi0 hz0 hz1 hz2
              have hlen20 := hid (show ts.length ≤ 1000 from by have := HL2.out; omega)
              have hpv := OC.out.1
              refine region_inv (n := 104) (I := Apd [.pointer (some ⟨wb.heap.size, 68, none⟩), cv, .pointer (some ⟨w1.heap.size, 0, none⟩), undef, undef, undef, .pointer (some ⟨wb.heap.size, 68, none⟩), undef] 1 3 4 5 7
                (fun W => DS 25 55 w w1.heap.size w.heap.size wb.heap.size (fun k => (k = w1.heap.size ∨ k = wb.heap.size) ∨ cv.ownBlock = some k) t s2 cv W ∧ Cs 44 (fun w' v xs => Ow w' w.heap.size v xs) W w.heap.size cv ts)
                (fun v W => ∃ vB, v = .agg #[.int .i64 y, vB] ∧ vB.oneCell' = true ∧ Ow W w.heap.size vB B ∧ DS 25 55 w w1.heap.size w.heap.size wb.heap.size (fun k => (k = w1.heap.size ∨ k = wb.heap.size) ∨ cv.ownBlock = some k) t' s2 cv W ∧ Cs 44 (fun w' v xs => Ow w' w.heap.size v xs) W w.heap.size cv ts)
                (fun v W => ∃ vB g, v = .slice (some ⟨g, 0, none⟩) 1 1 ∧ vB.oneCell' = true ∧ Blk W g #[.int .i64 y, vB] 44 ∧ Ow W w.heap.size vB B ∧ DS 25 55 w w1.heap.size w.heap.size wb.heap.size (fun k => (k = w1.heap.size ∨ k = wb.heap.size) ∨ cv.ownBlock = some k) t' s2 cv W ∧ Cs 44 (fun w' v xs => Ow w' w.heap.size v xs) W w.heap.size cv ts)
                (fun v W => ∃ vB, DS 25 55 w w1.heap.size w.heap.size wb.heap.size (fun k => (k = w1.heap.size ∨ k = wb.heap.size) ∨ v.ownBlock = some k) t' s2 cv W ∧ Cs 44 (fun w' v xs => Ow w' w.heap.size v xs) W w.heap.size v (ts ++ [(y, B, vB)]))
                (fun W => ∃ v vB, DS 25 55 w w1.heap.size w.heap.size wb.heap.size (fun k => (k = w1.heap.size ∨ k = wb.heap.size) ∨ v.ownBlock = some k) t' s2 v W ∧ Cs 44 (fun w' v xs => Ow w' w.heap.size v xs) W w.heap.size v (ts ++ [(y, B, vB)]))) (by kernel_rfl) (by kernel_rfl) (by kernel_rfl) (by kernel_rfl) (Apd.start ⟨DD.out.drew, OC.out⟩) ?hop ?hend
              case hop =>
                refine And.intro ?_ ?_
                · intro L V ρ w' hI hk hc hf hd hs
                  have s6 : ρ (.tmp 6) = .pointer (some ⟨wb.heap.size, 0, none⟩) := hs 6 (by kernel_rfl)
                  clear hd hs
                  exact outcome_value (v := .pointer (some ⟨wb.heap.size, 68, none⟩)) (by simp [go_sem, s6]) (hI.val (by decide) (by decide) (by decide) (by decide) rfl)
                refine And.intro ?_ ?_
                · intro L V ρ w' hI hk hc hf hd hs
                  have s53 : ρ (.tmp 53) = .pointer (some ⟨wb.heap.size, 68, none⟩) := ((hd 0 (by kernel_rfl)).2 53 (by kernel_rfl)).trans (hI.at (by decide) (by decide) (by decide) (by decide) (hd 0 (by kernel_rfl)).1)
                  have hcell : w'.cell? ⟨wb.heap.size, 68, none⟩ = some cv := hI.cell (C := fun W => W.cell? ⟨wb.heap.size, 68, none⟩ = some cv) (fun W h => (h.1.cell (j := 68) (by decide)).1) (fun v W h => by obtain ⟨_, _, _, _, h, _⟩ := h; exact (h.cell (j := 68) (by decide)).1) (fun v W h => by obtain ⟨_, _, _, _, _, _, h, _⟩ := h; exact (h.cell (j := 68) (by decide)).1) hk
                  have hp1 : cv = cv := rfl
                  clear hd hs
                  obtain ⟨pc, nc, ncap, hcvf⟩ : ∃ p n c, cv = .slice p n c := by obtain ⟨p, c, h, _⟩ := ownsRow_form hpv; exact ⟨p, _, c, h⟩
                  subst hcvf
                  exact outcome_value (v := .slice pc nc ncap) (by simp [go_sem, s53, hcell]) (hI.val (by decide) (by decide) (by decide) (by decide) rfl)
                refine And.intro ?_ ?_
                · intro L V ρ w' hI hk hc hf hd hs
                  have s4 : ρ (.tmp 4) = .pointer (some ⟨w1.heap.size, 0, none⟩) := hs 4 (by kernel_rfl)
                  clear hd hs
                  rw [BigFrame.run_move (.tmp 4) rfl]
                  exact hI.val (by decide) (by decide) (by decide) (by decide) s4
                refine And.intro ?_ ?_
                · intro L V ρ w' hI hk hc hf hd hs
                  have s55 : ρ (.tmp 55) = .pointer (some ⟨w1.heap.size, 0, none⟩) := ((hd 2 (by kernel_rfl)).2 55 (by kernel_rfl)).trans (hI.at (by decide) (by decide) (by decide) (by decide) (hd 2 (by kernel_rfl)).1)
                  clear hd hs
                  obtain ⟨D1, O1⟩ := hI.before hk
                  refine outcome_enter (w := w') (f := 29) (args := #[.pointer (some ⟨w1.heap.size, 0, none⟩)]) (by simp [go_sem, hf, s55]) ?_
                  refine (CE.out w' D1.rd D1.hN).mono ?_
                  rintro e w2 ⟨vB, rfl, OB, R2, M2⟩
                  have nr : ∀ (b : Nat) (ve : Value) (n : Nat) (size : Nat) (xs : List Value) (U : TypeId), w'.ownsRow b U size ve n xs → U ≠ 55 → ∀ k, ve.ownBlock = some k → ¬ k = w1.heap.size := fun b ve n size xs U O hU k hk e => by
                    obtain ⟨_, Br, _⟩ := D1.rd
                    subst e
                    exact ownsRow_blk O Br hU hk
                  refine ⟨_, rfl, hI.call hk (by decide) (by decide) (by decide) ⟨vB, rfl, ?_, OB.lower D1.below.size, D1.call R2 M2, O1.mod M2 (nr _ _ _ _ _ _ O1.1 (by decide)) (fun v' ys Oy => Oy.mod M2 (nr _ _ _ _ _ _ Oy (by decide)))⟩⟩
                  obtain ⟨pB, mB, cB, rfl⟩ := OB.bytes.form; rfl
                refine And.intro ?_ ?_
                · intro L V ρ w' hI hk hc hf hd hs
                  have h3 := (hd 3 (by kernel_rfl)).1
                  have s56 : ρ (.tmp 56) = V 3 := (hd 3 (by kernel_rfl)).2 56 (by kernel_rfl)
                  clear hd hs
                  obtain ⟨⟨vB, hv3, h1, OB, D1, O1⟩, hnext⟩ := hI.build h3 hk (by decide) (by decide) (by decide)
                  rw [hv3] at s56
                  refine outcome_value (v := .slice (some ⟨w'.heap.size, 0, none⟩) 1 1) (w := w'.alloc (.cells #[.int .i64 y, vB] 44)) (by simp [go_sem, s56]) (hnext _ _ ⟨vB, w'.heap.size, rfl, h1, Blk.new w' _ _, OB.alloc _, D1.alloc _, ?_⟩)
                  exact O1.mod ((Mod.refl (fun _ => False) w').alloc _) (fun k hk h => h) (fun v' ys Oy => Oy.alloc _)
                refine And.intro ?_ ?_
                · intro L V ρ w' hI hk hc hf hd hs
                  have h4 := (hd 4 (by kernel_rfl)).1
                  have h1 := (hd 1 (by kernel_rfl)).1
                  have s57 : ρ (.tmp 57) = V 4 := (hd 4 (by kernel_rfl)).2 57 (by kernel_rfl)
                  have s54 : ρ (.tmp 54) = cv := ((hd 1 (by kernel_rfl)).2 54 (by kernel_rfl)).trans (hI.at (by decide) (by decide) (by decide) (by decide) h1)
                  clear hd hs
                  obtain ⟨⟨vB, g, hv4, h1B, BB, OB, D1, O1⟩, hnext⟩ := hI.app h4 h1 hk (by decide) (by decide) (by decide) (by decide)
                  rw [hv4] at s57
                  obtain ⟨v', w2, hr, C2, M2, hvv⟩ := run_appC Try.underlying23 HI.out.1 HI.out.2.1 HI.out.2.2.1 HI.out.2.2.2 O1 y B vB h1B BB OB hlen20.out D1.below.size (fun w'' v'' ys Oy Mx => Oy.mod Mx (fun k hk hk' => ownsRow_ne Oy O1.1 (by decide) k hk hk')) 23 1
                  refine outcome_value (v := v') (w := w2) ?_ (hnext _ _ ⟨vB, D1.app (base := w.heap.size) O1.1 (Nat.le_refl _) M2 hvv (fun k hk => (ownsRow_lt C2.1 k hk).2) (by decide) (by decide) (Or.inl rfl) (Or.inr rfl), C2⟩)
                  simp only [execOp, resolve, invoke, builtin, Sem.run_bind, Sem.run_pure, Result.andThen_ok, List.map_toArray, List.map_cons, List.map_nil, s54, s57, hr]
                refine And.intro ?_ ?_
                · intro L V ρ w' hI hk hc hf hd hs
                  have s6 : ρ (.tmp 6) = .pointer (some ⟨wb.heap.size, 0, none⟩) := hs 6 (by kernel_rfl)
                  clear hd hs
                  exact outcome_value (v := .pointer (some ⟨wb.heap.size, 68, none⟩)) (by simp [go_sem, s6]) (hI.val (by decide) (by decide) (by decide) (by decide) rfl)
                refine And.intro ?_ ?_
                · intro L V ρ w' hI hk hc hf hd hs
                  have h5 := (hd 5 (by kernel_rfl)).1
                  have s58 : ρ (.tmp 58) = V 5 := (hd 5 (by kernel_rfl)).2 58 (by kernel_rfl)
                  have s59 : ρ (.tmp 59) = .pointer (some ⟨wb.heap.size, 68, none⟩) := ((hd 6 (by kernel_rfl)).2 59 (by kernel_rfl)).trans (hI.at (by decide) (by decide) (by decide) (by decide) (hd 6 (by kernel_rfl)).1)
                  clear hd hs
                  obtain ⟨⟨vB, D1, O1⟩, hnext⟩ := hI.store h5 hk (by decide) (by decide) (by decide) (by decide)
                  obtain ⟨p5, n5, c5, hv5⟩ : ∃ p n c, V 5 = .slice p n c := by obtain ⟨p, c, h, _⟩ := ownsRow_form O1.1; exact ⟨p, _, c, h⟩
                  obtain ⟨d1, f1⟩ := D1.cell (j := 68) (by decide)
                  have d1' : w'.cell? ⟨wb.heap.size, 68, none⟩ = some cv := d1
                  have nf : ∀ (b : Nat) (ve : Value) (n : Nat) (size : Nat) (xs : List Value) (U : TypeId), w'.ownsRow b U size ve n xs → U ≠ 25 → ∀ k, ve.ownBlock = some k → ¬ k = wb.heap.size := fun b ve n size xs U O hU k hk e => by
                    subst e
                    exact ownsRow_fn O D1.f6 hU hk
                  refine outcome_skip (w := w'.setCell ⟨wb.heap.size, 68, none⟩ (V 5)) ?_ (hnext _ _ ⟨V 5, vB, D1.cells _, O1.mod (Mod.one _ _ _ _) (nf _ _ _ _ _ _ O1.1 (by decide)) (fun v' ys Oy => Oy.mod (Mod.one _ _ _ _) (nf _ _ _ _ _ _ Oy (by decide)))⟩)
                  rw [hv5] at s58 ⊢
                  simp [go_sem, s58, s59, d1', f1]
                exact trivial
              case hend =>
                intro L V w13 hL hI
                obtain ⟨v13, vB, D13, O13⟩ := hI.end (hL 7 (by decide))
                have DH := hid D13; have OH := hid O13
                simp only [lexF, Act.put, List.setIfInBounds_toArray, List.set_cons_zero, List.set_cons_succ]
                clear hI hL D13 O13
                go_wp2
                go_roundg (sn.1 - (i + 1))
                case measure => omega
                case rel => exact ⟨i + 1, v13, ts ++ [(y, B, vB)], t', by go_num, rfl, by omega, hid (by rw [HC2.out]; unfold tcs; rw [List.map_append]; rfl), hid (by rw [List.length_append, HL2.out]; rfl), HT2, DH, OH⟩
            · have he2 : (t.2 == 0) = false := by simp; exact he
              have HE := hid (show cs = (tcs ts, t) from by rw [HC.out]; exact tCells_err he _ _)
              have HE1 := hid (show cs.1 = tcs ts by rw [HE.out])
              have HE2 := hid (show t = cs.2 by rw [HE.out])
              clear HC he
              go_wp2
              go_meet
              case rel => exact ⟨cv, ts, HE1, hid (HE2.out ▸ HT.out), hid (by have := HL2.out; omega), hid (HE2.out ▸ DD.out), OC⟩
          · have hini : ¬ (i : Int) < (sn.1 : Int) := by omega
            have HE := hid (show cs = (tcs ts, t) from by rw [HC.out, show sn.1 - i = 0 by omega]; rfl)
            have HE1 := hid (show cs.1 = tcs ts by rw [HE.out])
            have HE2 := hid (show t = cs.2 by rw [HE.out])
            clear HC
            go_wp2
            go_meet
            case rel => exact ⟨cv, ts, HE1, hid (HE2.out ▸ HT.out), hid (by have := HL2.out; omega), hid (HE2.out ▸ DD.out), OC⟩
      case rest =>
        obtain ⟨cv, ts, HE1, HLE, HT16, DD, OC⟩ := hcut
        obtain ⟨pr, cr, c0⟩ := DD.out.rd.cell0
        obtain ⟨ln, hln⟩ : ∃ ln, ln = cs.2.1.length := ⟨_, rfl⟩
        rw [← hln] at c0 HLE
        have hln' := hid hln
        have hle := HLE.out
        have hsub : IntKind.i64.wrap ((xs.length : Int) - (ln : Int)) = (xs.length : Int) - (ln : Int) := IntWalk.i64_in _ (by omega)
        obtain ⟨h9, hh9⟩ : ∃ h9, h9 = tHash cs.2 := ⟨_, rfl⟩
        have hh9' := hid hh9
        have h9len := hid (show h9.1.length = 32 by rw [hh9]; exact tHash_len _)
        have CH := hid (hh9 ▸ rdHash_c DD.out.rd DD.out.hN DD.out.Nr (by omega) : Calls Try.prog 27 #[.pointer (some ⟨w1.heap.size, 0, none⟩)] wc fun e w' => e = .returned (.agg (hl32 h9.1)) ∧ Rd 55 w' w1.heap.size (fun k => (k = w1.heap.size ∨ k = wb.heap.size) ∨ cv.ownBlock = some k) h9.2 ∧ Mod (fun k => k = w1.heap.size) wc w')
        have hz22 : ∀ W : World, (zeroValue 22).run Try.prog W = .ok (.agg (hl32 zero32)) W := zero_h32
        have h32s := hid (fun ys : List W8 => show (Try.prog.info? 22).map (·.size) = some (hl32 ys).size from by rw [hl32_size]; kernel_rfl)
        clear hln hh9
        go_upto_region 15 with fail
        clear c0
        go_upto_region 16 with (first
          | ((with_reducible refine at_op (.store 22 (.tmp 8) (.tmp 70)) rfl ?_); refine wpList_store_mid rfl 22 (.tmp 8) (.tmp 70) rfl w14.heap.size 0 (hl32 h9.1) rfl rfl (by rw [hl32_size]; exact (Fn.new w14 (hl32 zero32) 22 (hl32_size _) (fun j hj => hl32_get _ hj)).there 0 32 (by decide)) (h32s.out h9.1) (hl32_one h9.1) ?_)
          | (go_at_call 27; ((with_reducible refine CH.out.mono ?_); rintro e w14 ⟨rfl, R14, M14⟩); have D14 := hid (DD.out.call R14 M14); have O14 := hid (OC.out.mod M14 (fun k hk e => by obtain ⟨_, Br, _⟩ := DD.out.rd; subst e; exact ownsRow_blk OC.out.1 Br (by decide) hk) (fun v' ys Oy => Oy.mod M14 (fun k hk e => by obtain ⟨_, Br, _⟩ := DD.out.rd; subst e; exact ownsRow_blk Oy Br (by decide) hk))); clear R14 M14))
        simp only [Act.put]
        obtain ⟨w15, hw15⟩ : ∃ w15, w15 = (w14.alloc (.cells (hl32 zero32) 22)).setCells w14.heap.size 0 (hl32 h9.1).toList := ⟨_, rfl⟩
        have hd6 := D14.out.f6.lt
        have hd2 := D14.out.f2.lt
        have hdr := D14.out.rd.lt
        have D15 := hid (show DS 25 55 w w1.heap.size w.heap.size wb.heap.size (fun k => ((k = w1.heap.size ∨ k = wb.heap.size) ∨ cv.ownBlock = some k) ∨ k = w14.heap.size) h9.2 s2 cv w15 from by
          rw [hw15]; exact (D14.out.fresh _).far (Or.inr rfl) (Mod.cells _ _ _ _) (by omega) (by omega) (by omega) (by have := D14.out.below.size; omega))
        have F8 := hid (show Fn w15 w14.heap.size 22 32 (fun j => .int .u8 (ub (h9.1.getD j 0))) from by
          rw [hw15]; exact (Fn.new w14 (hl32 zero32) 22 (hl32_size _) (fun j hj => hl32_get _ hj)).storeAll (fun j => .int .u8 (ub (h9.1.getD j 0))))
        have O15 := hid (show Cs 44 (fun u v xs => Ow u w.heap.size v xs) w15 w.heap.size cv ts from by
          rw [hw15]
          exact (O14.out.mod ((Mod.refl (fun _ => False) w14).alloc _) (fun k hk h => h) (fun v' ys Oy => Oy.alloc _)).mod (Mod.cells _ _ _ _) (fun k hk e => by have := (ownsRow_lt O14.out.1 k hk).2; omega) (fun v' ys Oy => Oy.mod (Mod.cells _ _ _ _) (fun k hk e => by subst e; exact ownsRow_blk Oy (Blk.new w14 _ _) (by decide) hk)))
        have hb8 := hid (show wb.heap.size < w14.heap.size ∧ w.heap.size < w14.heap.size ∧ w1.heap.size < w14.heap.size from ⟨hd6, hd2, hdr⟩)
        obtain ⟨b8, hb8e⟩ : ∃ b8, b8 = w14.heap.size := ⟨_, rfl⟩
        rw [← hw15, ← hb8e]
        rw [← hb8e] at D15 F8 hb8
        clear hw15 hb8e hd6 hd2 hdr D14 O14 CH DD OC hsub
        obtain ⟨t9, ht9⟩ : ∃ t9, t9 = tFail (decide (0 < h9.2.1.length)) h9.2 := ⟨_, rfl⟩
        have ht9' := hid ht9
        obtain ⟨p9, c9, k9⟩ := D15.out.rd.cell0
        obtain ⟨l9, hl9⟩ : ∃ l9, l9 = h9.2.1.length := ⟨_, rfl⟩
        have CF := hid (ht9 ▸ rdFail_c D15.out.rd D15.out.Nr (decide (0 < h9.2.1.length)))
        rw [← hl9] at k9 CF
        clear ht9 hl9
        go_cut [] from 71 to 78 (fun wr => Hid (DS 25 55 w w1.heap.size w.heap.size wb.heap.size (fun k => ((k = w1.heap.size ∨ k = wb.heap.size) ∨ cv.ownBlock = some k) ∨ k = b8) t9 s2 cv wr) ∧ Hid (Fn wr b8 22 32 (fun j => .int .u8 (ub (h9.1.getD j 0)))) ∧ Hid (Cs 44 (fun u v xs => Ow u w.heap.size v xs) wr w.heap.size cv ts))
        case first =>
          by_cases h0 : l9 = 0
          · subst h0
            have CG := hid (show Calls Try.prog 25 #[.pointer (some ⟨w1.heap.size, 0, none⟩), .bool false] w15 _ from CF.out)
            clear CF
            go_wp2_with (go_at_call 25; ((with_reducible refine CG.out.mono ?_); rintro e w16 ⟨rfl, R16, M16⟩); have D16 := hid (D15.out.call R16 M16); have F16 := hid (F8.out.mod M16 (fun e => by have := hb8.out; omega)); have O16 := hid (O15.out.mod M16 (fun k hk e => by obtain ⟨_, Br, _⟩ := D15.out.rd; subst e; exact ownsRow_blk O15.out.1 Br (by decide) hk) (fun v' ys Oy => Oy.mod M16 (fun k hk e => by obtain ⟨_, Br, _⟩ := D15.out.rd; subst e; exact ownsRow_blk Oy Br (by decide) hk))); clear R16 M16)
            go_meet
            case rel => exact ⟨D16, F16, O16⟩
          · have h0i : (0 : Int) < (l9 : Int) := by omega
            have h0n : 0 < l9 := by omega
            have CG := hid (by have := CF.out; rw [decide_eq_true h0n] at this; exact this : Calls Try.prog 25 #[.pointer (some ⟨w1.heap.size, 0, none⟩), .bool true] w15 _)
            clear CF h0
            go_wp2_with (go_at_call 25; ((with_reducible refine CG.out.mono ?_); rintro e w16 ⟨rfl, R16, M16⟩); have D16 := hid (D15.out.call R16 M16); have F16 := hid (F8.out.mod M16 (fun e => by have := hb8.out; omega)); have O16 := hid (O15.out.mod M16 (fun k hk e => by obtain ⟨_, Br, _⟩ := D15.out.rd; subst e; exact ownsRow_blk O15.out.1 Br (by decide) hk) (fun v' ys Oy => Oy.mod M16 (fun k hk e => by obtain ⟨_, Br, _⟩ := D15.out.rd; subst e; exact ownsRow_blk Oy Br (by decide) hk))); clear R16 M16)
            go_meet
            case rel => exact ⟨D16, F16, O16⟩
        case rest =>
          obtain ⟨D16, F16, O16⟩ := hcut
          clear CF D15 F8 O15 k9
          have e1 := D16.out.rd.cell1
          have hA := HA.out
          have hdec := hid (decS_eq h5 hm'.out (by rw [← hx'.out]; exact ht0'.out) hA.1 hA.2.1 hA.2.2.1 hA.2.2.2.1 hA.2.2.2.2.1 hA.2.2.2.2.2 hcs'.out hh9'.out ht9'.out)
          clear hA
          by_cases h9e : t9.2 = 0
          · rw [h9e] at e1
            have hdec2 := hid (hdec.out.trans (if_pos h9e))
            obtain ⟨lg, hlg⟩ : ∃ lg : Nat, lg = xs.length - ln := ⟨_, rfl⟩
            have elg : (xs.length : Int) - (ln : Int) = (lg : Int) := by omega
            rw [elg]
            rw [← hln'.out, ← hlg] at hdec2
            have hlgx : lg ≤ xs.length := by omega
            have hlcap : (lg : Int) ≤ (cap : Int) := by
              by_cases h0 : 0 < xs.length
              · have := HB.out
                obtain ⟨p', c', e', hq'⟩ := this
                cases e'
                obtain ⟨_, _, _, _, h, _⟩ := hq' h0
                omega
              · omega
            have KS := hid (fun m : Wd wc => shaSum_l ((HB.out.take' lg hlgx).below (D16.out.below.trans (m.h.mono D16.out.below.size))) (by rw [List.length_take]; omega))
            have HRG := hid (fun W (h : ∃ m : Wd wc, W = m.w) => by obtain ⟨m, rfl⟩ := h; exact (F16.out.below m.h F16.out.lt).range' (hl32 h9.1) (hl32_size _) (fun j hj => hl32_get _ hj) : ∀ W, (∃ m : Wd wc, W = m.w) → W.rangeAt b8 0 (hl32 h9.1).toList)
            have h32l := hid (show (Try.prog.info? 22).map (·.size) = some (hl32 h9.1).toList.length from by rw [Array.length_toList, hl32_size]; kernel_rfl)
            have hu22 := Try.underlying22
            have heq := eq32 (x := shaL (xs.take lg)) (y := h9.1) (shaL_length _) h9len.out
            clear elg hlg h9e
            by_cases hsum : shaL (xs.take lg) = h9.1
            · have hdec3 := hid (hdec2.out.trans (if_pos hsum))
              rw [decide_eq_true hsum] at heq
              clear hsum
              go_upto_region 19 with fail
              refine region_wd (by kernel_rfl) (by kernel_rfl) ?_
              repeat (first
                | go_big_quiet_skip
                | (go_big_quiet_want
                   first
                   | (refine quiet_load_mid 22 (.tmp 8) rfl b8 0 rfl (hl32 h9.1).toList _ HRG.out hu22 rfl h32l.out ?_
                      simp only [Act.put, List.setIfInBounds_toArray, List.set_cons_zero, List.set_cons_succ, Array.toArray_toList]
                      go_big_quiet_on)
                   | (go_big_quiet_op
                      first
                      | go_big_quiet_on
                      | go_big_quiet_call ((go_at_call 17; exact Wd.call _ (KS.out _))))))
              refine wpQuiet_nil ?_
              rintro _ ⟨nq, rfl⟩
              obtain ⟨w18, hw18⟩ : ∃ w18, w18 = nq.w := ⟨_, rfl⟩
              have DQ := hid (hw18 ▸ D16.out.quiet nq.h : DS 25 55 w w1.heap.size w.heap.size wb.heap.size (fun k => ((k = w1.heap.size ∨ k = wb.heap.size) ∨ cv.ownBlock = some k) ∨ k = b8) t9 s2 cv w18)
              have OQ := hid (hw18 ▸ O16.out.mod (Mod.of_below nq.h (fun _ => False)) (fun k hk h => h) (fun v' ys Oy => Oy.below nq.h) : Cs 44 (fun u v xs => Ow u w.heap.size v xs) w18 w.heap.size cv ts)
              rw [← hw18]
              clear hw18
              obtain ⟨s3, hs3⟩ : ∃ s3 : Strm, s3 = { s2 with cells := tcs ts } := ⟨_, rfl⟩
              have hs3' := hid hs3
              have hv3 := hid (show strmV s2 cv = strmV s3 cv from by rw [hs3]; rfl)
              have hs3d := hid (show s3 = ⟨decide (m.1 = 73), na.1, nb.1, nc.1, hp.1, hg.1, cs.1⟩ from by rw [hs3, hs2'.out, hs1'.out, hin.out, hq'.out, hx'.out, HE1.out])
              have hb3 := hid (show s3.base.length = 32 from by rw [hs3d.out]; show hp.1.length = 32; rw [HA.out.2.2.2.1]; exact tHash_len _)
              have hcells := hid (show CellsAt w18 cv s3.cells from by rw [hs3]; exact OQ.out.read (fun v xs O => O.bytes) (by have := HT16.out; omega))
              have hcv1 := hid (show cv.oneCell' = true from by obtain ⟨p', c', e', _⟩ := ownsRow_form OQ.out.1; rw [e']; rfl)
              rw [← hs3d.out] at hdec3
              clear hs3
              have RG6 := hid (show w18.rangeAt wb.heap.size 0 (strmV s2 cv).toList from DQ.out.f6.range' (strmV s2 cv) (strmV_size _ _) (fun j hj => strmV_get _ _ hj))
              have hi69 := hid (show (Try.prog.info? 25).map (·.size) = some (strmV s2 cv).toList.length from by rw [Array.length_toList, strmV_size]; kernel_rfl)
              by_cases hmay : mayS s3
              · have HD := hid (hdec3.out.trans (if_pos hmay))
                have CM := hid (by have := may_c hv3.out hb3.out hcells.out; rwa [decide_eq_true hmay] at this : Calls Try.prog 12 #[.agg (strmV s2 cv)] w18 fun e w' => e = .returned (.bool true) ∧ Below w18.heap.size w18 w')
                clear hmay
                go_upto_region 23 with (first
                  | ((with_reducible refine at_op (.load 25 (.tmp 6)) rfl ?_); refine wpList_load_mid rfl 25 (.tmp 6) rfl wb.heap.size 0 rfl (strmV s2 cv).toList _ RG6.out Try.underlying25 rfl hi69.out ?_)
                  | (go_at_call 12; refine CM.out.mono ?_; rintro e w19 ⟨rfl, hb19⟩; have HB19 := hid hb19; clear hb19))
                have DR := hid (DQ.out.quiet HB19.out)
                have OR := hid (OQ.out.mod (Mod.of_below HB19.out (fun _ => False)) (fun k hk h => h) (fun v' ys Oy => Oy.below HB19.out))
                have RG7 := hid (show w19.rangeAt wb.heap.size 0 (strmV s2 cv).toList from DR.out.f6.range' (strmV s2 cv) (strmV_size _ _) (fun j hj => strmV_get _ _ hj))
                go_wp2_with (first
                  | ((with_reducible refine at_op (.load 25 (.tmp 6)) rfl ?_); refine wpList_load_mid rfl 25 (.tmp 6) rfl wb.heap.size 0 rfl (strmV s2 cv).toList _ RG7.out Try.underlying25 rfl hi69.out ?_)
                  | ((with_reducible refine at_op (.store 25 (.tmp 2) (.tmp 103)) rfl ?_); refine wpList_store_mid rfl 25 (.tmp 2) (.tmp 103) rfl w.heap.size 0 (strmV s2 cv) rfl rfl (there_set DR.out.f2 (strmV_size _ _)) (by rw [strmV_size]; kernel_rfl) (strmV_one _ _ hcv1.out) ?_))
                obtain ⟨FL, BL, ML⟩ := DR.out.lay s2 cv
                refine bodyPost_ret (v := .tuple #[.agg (strmV s2 cv), .int .i64 0]) (results_strm (p := 2) (u := 3) (ty := 25) rfl _ _ w.heap.size _ _ rfl rfl (load_strm FL Try.underlying25 rfl (by kernel_rfl))) rfl ⟨cv, ts, by rw [HD.out, hv3.out], by rw [HD.out, hs3'.out], ?_, BL⟩
                exact OR.out.mod ML (fun k hk e => by subst e; exact ownsRow_fn OR.out.1 DR.out.f2 (by decide) hk) (fun v' ys Oy => Oy.mod ML (fun k hk e => by subst e; exact ownsRow_fn Oy DR.out.f2 (by decide) hk))
              · have HD := hid (hdec3.out.trans (if_neg hmay))
                have CM := hid (by have := may_c hv3.out hb3.out hcells.out; rwa [decide_eq_false hmay] at this : Calls Try.prog 12 #[.agg (strmV s2 cv)] w18 fun e w' => e = .returned (.bool false) ∧ Below w18.heap.size w18 w')
                clear hmay
                go_upto_region 22 with (first
                  | ((with_reducible refine at_op (.load 25 (.tmp 6)) rfl ?_); refine wpList_load_mid rfl 25 (.tmp 6) rfl wb.heap.size 0 rfl (strmV s2 cv).toList _ RG6.out Try.underlying25 rfl hi69.out ?_)
                  | (go_at_call 12; refine CM.out.mono ?_; rintro e w19 ⟨rfl, hb19⟩; have HB19 := hid hb19; clear hb19))
                have DR := hid (DQ.out.quiet HB19.out)
                go_wp2_with ((with_reducible refine at_op (.store 25 (.tmp 2) (.tmp 102)) rfl ?_); refine wpList_store_mid rfl 25 (.tmp 2) (.tmp 102) rfl w.heap.size 0 zs rfl rfl (there_set DR.out.f2 hsz.out) (by rw [hsz.out]; kernel_rfl) hso.out ?_)
                rw [HZ.out]
                obtain ⟨FL, BL, ML⟩ := DR.out.lay Strm.zero (.slice none 0 0)
                refine bodyPost_ret (v := .tuple #[.agg (strmV Strm.zero (.slice none 0 0)), .int .i64 3]) (results_strm (p := 2) (u := 3) (ty := 25) rfl _ _ w.heap.size _ _ rfl rfl (load_strm FL Try.underlying25 rfl (by kernel_rfl))) rfl ⟨.slice none 0 0, [], by rw [HD.out], by rw [HD.out]; rfl, Cs.nil _ _ _ _, BL⟩
            · have HD := hid (hdec2.out.trans (if_neg hsum))
              rw [decide_eq_false hsum] at heq
              clear hsum
              go_upto_region 19 with fail
              refine region_wd (by kernel_rfl) (by kernel_rfl) ?_
              repeat (first
                | go_big_quiet_skip
                | (go_big_quiet_want
                   first
                   | (refine quiet_load_mid 22 (.tmp 8) rfl b8 0 rfl (hl32 h9.1).toList _ HRG.out hu22 rfl h32l.out ?_
                      simp only [Act.put, List.setIfInBounds_toArray, List.set_cons_zero, List.set_cons_succ, Array.toArray_toList]
                      go_big_quiet_on)
                   | (go_big_quiet_op
                      first
                      | go_big_quiet_on
                      | go_big_quiet_call ((go_at_call 17; exact Wd.call _ (KS.out _))))))
              refine wpQuiet_nil ?_
              rintro _ ⟨nq, rfl⟩
              have DQ := hid (D16.out.quiet nq.h)
              go_wp2_with ((with_reducible refine at_op (.store 25 (.tmp 2) (.tmp 97)) rfl ?_); refine wpList_store_mid rfl 25 (.tmp 2) (.tmp 97) rfl w.heap.size 0 zs rfl rfl (there_set DQ.out.f2 hsz.out) (by rw [hsz.out]; kernel_rfl) hso.out ?_)
              rw [HZ.out]
              obtain ⟨FL, BL, ML⟩ := DQ.out.lay Strm.zero (.slice none 0 0)
              refine bodyPost_ret (v := .tuple #[.agg (strmV Strm.zero (.slice none 0 0)), .int .i64 14]) (results_strm (p := 2) (u := 3) (ty := 25) rfl _ _ w.heap.size _ _ rfl rfl (load_strm FL Try.underlying25 rfl (by kernel_rfl))) rfl ⟨.slice none 0 0, [], by rw [HD.out], by rw [HD.out]; rfl, Cs.nil _ _ _ _, BL⟩
          · have e92 : (t9.2 == 0) = false := by simp; exact h9e
            have HD := hid (hdec.out.trans (if_neg h9e))
            clear h9e
            go_upto_region 18 with fail
            refine region_rel (n := 104) (B := fun W => Mod (fun k => k = w.heap.size) wc W ∧ Fn W w.heap.size 25 69 (sf Strm.zero (.slice none 0 0))) (E := fun _ _ => True) (φ := fun k v _ => v = ([.agg zs, .pointer (some ⟨w1.heap.size, 0, none⟩), .pointer (some ⟨w1.heap.size, 0, none⟩), .pointer (some ⟨w1.heap.size, 1, none⟩), .int .i64 t9.2, undef, .int .i64 t9.2] : List Value).getD k undef) (by kernel_rfl) (by kernel_rfl) (by kernel_rfl) (by kernel_rfl) (fun _ _ _ _ h _ => h) (fun _ => trivial) ⟨(Mod.refl _ wc).drew, D16.out.f2⟩ ?hop ?hend
            case hop =>
              refine And.intro ?_ ?_
              · intro V ρ W hB hc hf hd hs
                clear hd hs
                exact outcome_value (v := .agg zs) (by simp [go_sem, hz]) ⟨rfl, hB, trivial⟩
              refine And.intro ?_ ?_
              · intro V ρ W hB hc hf hd hs
                have s4 : ρ (.tmp 4) = .pointer (some ⟨w1.heap.size, 0, none⟩) := hs 4 (by kernel_rfl)
                clear hd hs
                rw [BigFrame.run_move (.tmp 4) rfl]
                exact ⟨s4, hB, trivial⟩
              refine And.intro ?_ ?_
              · intro V ρ W hB hc hf hd hs
                have s86 : ρ (.tmp 86) = .pointer (some ⟨w1.heap.size, 0, none⟩) := (hd 1 (by kernel_rfl) 86 (by kernel_rfl)).2.trans (hd 1 (by kernel_rfl) 86 (by kernel_rfl)).1
                clear hd hs
                exact outcome_value (v := .pointer (some ⟨w1.heap.size, 0, none⟩)) (by simp [go_sem, s86]) ⟨rfl, hB, trivial⟩
              refine And.intro ?_ ?_
              · intro V ρ W hB hc hf hd hs
                have s87 : ρ (.tmp 87) = .pointer (some ⟨w1.heap.size, 0, none⟩) := (hd 2 (by kernel_rfl) 87 (by kernel_rfl)).2.trans (hd 2 (by kernel_rfl) 87 (by kernel_rfl)).1
                clear hd hs
                exact outcome_value (v := .pointer (some ⟨w1.heap.size, 1, none⟩)) (by simp [go_sem, s87]) ⟨rfl, hB, trivial⟩
              refine And.intro ?_ ?_
              · intro V ρ W hB hc hf hd hs
                have s88 : ρ (.tmp 88) = .pointer (some ⟨w1.heap.size, 1, none⟩) := (hd 3 (by kernel_rfl) 88 (by kernel_rfl)).2.trans (hd 3 (by kernel_rfl) 88 (by kernel_rfl)).1
                clear hd hs
                have k1 : W.cell? ⟨w1.heap.size, 1, none⟩ = some (.int .i64 t9.2) := by
                    obtain ⟨_, Br, _⟩ := D16.out.rd
                    exact (hB.1.blk Br (fun e => D16.out.r2 e)).cellv rfl
                exact outcome_value (v := .int .i64 t9.2) (by simp [go_sem, s88, k1]) ⟨rfl, hB, trivial⟩
              refine And.intro ?_ ?_
              · intro V ρ W hB hc hf hd hs
                have s85 : ρ (.tmp 85) = .agg zs := (hd 0 (by kernel_rfl) 85 (by kernel_rfl)).2.trans (hd 0 (by kernel_rfl) 85 (by kernel_rfl)).1
                have s2' : ρ (.tmp 2) = .pointer (some ⟨w.heap.size, 0, none⟩) := hs 2 (by kernel_rfl)
                clear hd hs
                refine outcome_skip (run_store_strm rfl s2' s85 (there_set hB.2 hsz.out) (by rw [hsz.out]; kernel_rfl) hso.out) ⟨rfl, ?_, trivial⟩
                rw [HZ.out]
                exact ⟨hB.1.trans (Mod.cells _ _ _ _), hB.2.storeAll _⟩
              refine And.intro ?_ ?_
              · intro V ρ W hB hc hf hd hs
                have s89 : ρ (.tmp 89) = .int .i64 t9.2 := (hd 4 (by kernel_rfl) 89 (by kernel_rfl)).2.trans (hd 4 (by kernel_rfl) 89 (by kernel_rfl)).1
                clear hd hs
                rw [BigFrame.run_assign (.tmp 89) rfl]
                exact ⟨s89, hB, trivial⟩
              exact trivial
            case hend =>
              intro V w17 hB17 hV
              have v6 : V 6 = .int .i64 t9.2 := hV 6 (by decide)
              have HB17 := hid hB17
              simp only [lexF, Act.put, List.setIfInBounds_toArray, List.set_cons_zero, List.set_cons_succ, v6]
              clear hV v6 hB17
              go_wp2
              refine bodyPost_ret (v := .tuple #[.agg (strmV Strm.zero (.slice none 0 0)), .int .i64 t9.2]) (results_strm (p := 2) (u := 3) (ty := 25) rfl _ _ w.heap.size _ _ rfl rfl (load_strm HB17.out.2 Try.underlying25 rfl (by kernel_rfl))) rfl ⟨.slice none 0 0, [], by rw [HD.out], by rw [HD.out]; rfl, Cs.nil _ _ _ _, (D16.out.below.trans (HB17.out.1.below D16.out.below.size (fun k hk e => by omega)))⟩
end Go.Proofs.Ytpbkdjnogjmfcaa
