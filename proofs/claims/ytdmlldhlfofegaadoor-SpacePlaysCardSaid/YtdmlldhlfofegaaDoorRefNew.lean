/- The document's map: a list of truths: New. -/
import Derived.Test.YtdmlldhlfofegaaDoorAny
import Derived.Test.YtdmlldhlfofegaaDoorRel
namespace Go.Proofs.YtdmlldhlfofegaaDoor
open Go.RowKit

/-- The document's map lies in memory. -/
def RM (w : World) (v : Value) (n : Nat) (U : Nat → Bool) : Prop := ∃ b c, v = .agg #[.slice (some ⟨b, 0, none⟩) n c] ∧ n ≤ c ∧ c ≤ 9223372036854775807 ∧ b < w.heap.size ∧ ∀ i, i < n → w.cell? ⟨b, i, none⟩ = some (.bool (U i))
theorem RM.below {w w' : World} {v : Value} {n : Nat} {U : Nat → Bool} (h : RM w v n U) (hb : Below w.heap.size w w') : RM w' v n U := by
  obtain ⟨b, c, h1, h2, h3, h4, h5⟩ := h
  exact ⟨b, c, h1, h2, h3, Nat.lt_of_lt_of_le h4 hb.size, fun i hi => (hb.cell h4).trans (h5 i hi)⟩
theorem info4 : (Tryd.prog.info? 4).map (fun i => (i.zero, i.size, i.bytes)) = some (some (.bool false), 1, 1) := by kernel_rfl
theorem madeB (n : Nat) (hn : n ≤ 512) : ∃ C : Array Value, C.size = n ∧ (∀ j, j < n → C[j]? = some (.bool false)) ∧ ∀ W : World, (Instr.makeSlice 39 (.int .i64 n) (.int .i64 n)).run Tryd.prog W = .ok (.slice (some ⟨W.heap.size, 0, none⟩) n n) (W.alloc (.cells C 4)) := by
  obtain ⟨i0, hi, hz0, hz1, hz2⟩ := info_parts info4
  refine ⟨madeCells (Value.bool false).cells (n * 1), by simp [size_madeCells], fun j hj => ?_, fun W => ?_⟩
  · simp [madeCells, Value.cells, hj, Nat.mod_one]
  · have := run_makeSlice (P := Tryd.prog) W 39 4 i0 (.bool false) Tryd.underlying39 hi hz0 .i64 .i64 n n (by omega) (by omega) (by rw [hz1]; omega) (by rw [hz2]; omega) (by omega)
    rw [this, hz1]; simp
theorem results_cell_tmp {P : Program} {fn : Func} {p q : Tmp} {ty : TypeId} (h : fn.results = #[.cell p ty, .tmp q]) (tmps : Array Value) (w : World) (g : Nat) (t : TypeId) (cs : Array Value) (fr : Nat × Nat) (d : TypeDesc)
    (hp : tmps.getD p undef = .pointer (some ⟨g, 0, none⟩)) (hg : w.heap[g]? = some (.cells cs t fr)) (hu : P.underlying ty = some d) (hd : (match d with | .struct _ | .array _ _ => true | _ => false) = true) (hi : (P.info? ty).map (·.size) = some cs.size) :
    (results fn tmps).run P w = .ok (.tuple #[.agg cs, tmps.getD q undef]) w := by
  have hp' : tmps[p]?.getD undef = .pointer (some ⟨g, 0, none⟩) := by simpa using hp
  simp [results, h, hp', asAddr, run_loadVar_row w g t ty cs fr d hg hu hd hi]
theorem ret_map {w : World} {g : Nat} {cs : Array Value} {R : Ending → World → Prop} {a : Act} {fn : Func} {p q : Tmp} {y : Value} (h : fn.results = #[.cell p 41, .tmp q]) (hd : a.defers = []) (hp : a.tmps.getD p undef = .pointer (some ⟨g, 0, none⟩)) (hq : a.tmps.getD q undef = y) (hg : Blk w g cs 41) (hz : cs.size = 1)
    (hR : R (.returned (.tuple #[.agg cs, y])) w) : bodyPost Tryd.prog fn R .ret a w := by
  refine bodyPost_ret (v := .tuple #[.agg cs, y]) ?_ hd hR
  rw [← hq]
  exact results_cell_tmp h _ _ g _ cs (0, 0) _ hp hg Tryd.underlying41 rfl (by rw [hz]; kernel_rfl)
theorem rnew_no (w : World) (n : Int) (h : n < 16 ∨ 512 < n) : Calls Tryd.prog 15 #[.int .i64 n] w fun e w' => e = .returned (.tuple #[.agg #[.slice none 0 0], .int .i64 1]) ∧ Below w.heap.size w w' := by
  have L := (Below.refl w.heap.size w).alloc (Nat.le_refl _) (.cells #[.slice none 0 0] 41)
  have HB := hid (Blk.new w #[.slice none 0 0] 41)
  have HL := hid L
  clear L
  rcases h with h | h
  · go_enter Tryd.func15, Tryd.ntmps15
    go_wp2
    exact ret_map rfl rfl rfl rfl HB.out rfl ⟨rfl, HL.out⟩
  · have h' : ¬ n < 16 := by omega
    go_enter Tryd.func15, Tryd.ntmps15
    go_wp2
    exact ret_map rfl rfl rfl rfl HB.out rfl ⟨rfl, HL.out⟩
set_option maxRecDepth 100000 in
set_option maxHeartbeats 2000000 in
theorem rnew_yes (w : World) (n : Nat) (h1 : 16 ≤ n) (h2 : n ≤ 512) : Calls Tryd.prog 15 #[.int .i64 n] w fun e w' => ∃ v, e = .returned (.tuple #[v, .int .i64 0]) ∧ w.heap.size < w'.heap.size ∧ v = .agg #[.slice (some ⟨w.heap.size + 1, 0, none⟩) n n] ∧ Fn w' (w.heap.size + 1) 4 n (fun i => .bool (decide (i < 4))) ∧ Below w.heap.size w w' := by
  obtain ⟨C, hC1, hC2, hmk⟩ := madeB n h2
  obtain ⟨w1, hw1⟩ : ∃ w1, w1 = w.alloc (.cells #[.slice none 0 0] 41) := ⟨_, rfl⟩
  have hs1 : w1.heap.size = w.heap.size + 1 := by rw [hw1]; simp
  have HB := hid (show Blk w1 w.heap.size #[.slice none 0 0] 41 by rw [hw1]; exact Blk.new w _ _)
  have HL := hid (show Below w.heap.size w w1 by rw [hw1]; exact (Below.refl w.heap.size w).alloc (Nat.le_refl _) _)
  have F0 := hid (Fn.new w1 C 4 (n := n) (f := fun _ => .bool false) hC1 hC2)
  have L0 := hid ((Below.refl w1.heap.size w1).alloc (Nat.le_refl _) (.cells C 4))
  have n0 : (0 : Int) ≤ (n : Int) := Int.natCast_nonneg _
  have n1 : ¬ (n : Int) < 16 := by omega
  have n2 : ¬ (512 : Int) < (n : Int) := by omega
  clear hC1 hC2
  go_enter Tryd.func15, Tryd.ntmps15
  go_upto_region 3 with fail
  rw [← hw1]
  have HS1 := hid hs1
  clear hw1 hs1
  go_wp2
  go_loopg [5] 4 (fun g v5 wr => ∃ i : Nat, v5 = .int .i64 i ∧ g = 4 - i ∧ i ≤ 4 ∧ Hid (Fn wr w1.heap.size 4 n (fun j => .bool (decide (j < i)))) ∧ Hid (Mod (fun c => c = w1.heap.size) w1 wr))
  case atStart => exact ⟨0, rfl, rfl, by omega, hid (F0.out.congr (fun j hj => by rw [decide_eq_false (by omega)])), hid (Mod.of_below L0.out _)⟩
  case round =>
    obtain ⟨i, rfl, hg, hi, FI, MI⟩ := hrel
    by_cases hi4 : i < 4
    · have c0 : wr.cell? ⟨w1.heap.size, i, none⟩ = some (.bool false) := by have := FI.out.cell (j := i) (by omega); rwa [decide_eq_false (by omega)] at this
      have f0 : wr.frozen? ⟨w1.heap.size, i, none⟩ = false := FI.out.frozen _
      have m0 : (0 : Int) ≤ (i : Int) := Int.natCast_nonneg _
      have m1 : (i : Int) < (n : Int) := by omega
      go_wp2
      go_roundg (4 - (i + 1))
      case measure => omega
      case rel =>
        refine ⟨i + 1, by go_num, rfl, by omega, hid ((FI.out.set i (.bool true)).congr (fun j hj => ?_)), hid (MI.out.setCell (p := ⟨w1.heap.size, i, none⟩) (fun _ => rfl) _)⟩
        unfold set1
        by_cases e : j = i
        · subst e; rw [if_pos rfl, decide_eq_true (by omega)]
        · rw [if_neg e]
          congr 1
          exact decide_eq_decide.2 (by omega)
    · have hi2 : i = 4 := by omega
      subst hi2
      clear hg hi hi4
      have HBr := hid (HB.out.of_block (MI.out.block _ (by have := HS1.out; omega) (by have := HS1.out; omega)))
      have cr : wr.cell? ⟨w.heap.size, 0, none⟩ = some (.slice none 0 0) := HBr.out.cellv rfl
      have fr : wr.frozen? ⟨w.heap.size, 0, none⟩ = false := HBr.out.frozen _
      go_wp2
      have HBf := HBr.out.set 0 (.slice (some ⟨w1.heap.size, 0, none⟩) n n)
      have hlt := HBr.out.lt
      refine ret_map rfl rfl rfl rfl HBf rfl ⟨_, rfl, by simpa [World.setCell] using hlt, by rw [← HS1.out]; rfl, ?_, ?_⟩
      · rw [← HS1.out]; exact FI.out.other (by show w.heap.size ≠ w1.heap.size; have := HS1.out; omega) _
      · have hM : Mod (fun c => w.heap.size ≤ c) w wr := (Mod.of_below HL.out _).trans (MI.out.weaken (fun c _ h => by have := HS1.out; omega))
        exact (hM.setCell (p := ⟨w.heap.size, 0, none⟩) (fun _ => Nat.le_refl _) _).below (Nat.le_refl _) (fun c hc h => by omega)
end Go.Proofs.YtdmlldhlfofegaaDoor
