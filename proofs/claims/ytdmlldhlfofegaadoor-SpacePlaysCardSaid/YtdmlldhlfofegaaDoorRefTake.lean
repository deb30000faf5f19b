/- The document's map: Take. -/
import Derived.Test.YtdmlldhlfofegaaDoorRefGive
namespace Go.Proofs.YtdmlldhlfofegaaDoor
open Go.RowKit

theorem results_cell_tmp2 {P : Program} {fn : Func} {p q r : Tmp} {ty : TypeId} (h : fn.results = #[.cell p ty, .tmp q, .tmp r]) (tmps : Array Value) (w : World) (g : Nat) (t : TypeId) (cs : Array Value) (fr : Nat × Nat) (d : TypeDesc)
    (hp : tmps.getD p undef = .pointer (some ⟨g, 0, none⟩)) (hg : w.heap[g]? = some (.cells cs t fr)) (hu : P.underlying ty = some d) (hd : (match d with | .struct _ | .array _ _ => true | _ => false) = true) (hi : (P.info? ty).map (·.size) = some cs.size) :
    (results fn tmps).run P w = .ok (.tuple #[.agg cs, tmps.getD q undef, tmps.getD r undef]) w := by
  have hp' : tmps[p]?.getD undef = .pointer (some ⟨g, 0, none⟩) := by simpa using hp
  simp [results, h, hp', asAddr, run_loadVar_row w g t ty cs fr d hg hu hd hi]
theorem ret_map3 {w : World} {g : Nat} {cs : Array Value} {R : Ending → World → Prop} {a : Act} {fn : Func} {p q r : Tmp} {y z : Value} (h : fn.results = #[.cell p 41, .tmp q, .tmp r]) (hd : a.defers = []) (hp : a.tmps.getD p undef = .pointer (some ⟨g, 0, none⟩)) (hq : a.tmps.getD q undef = y) (hr : a.tmps.getD r undef = z) (hg : Blk w g cs 41) (hz : cs.size = 1)
    (hR : R (.returned (.tuple #[.agg cs, y, z])) w) : bodyPost Tryd.prog fn R .ret a w := by
  refine bodyPost_ret (v := .tuple #[.agg cs, y, z]) ?_ hd hR
  rw [← hq, ← hr]
  exact results_cell_tmp2 h _ _ g _ cs (0, 0) _ hp hg Tryd.underlying41 rfl (by rw [hz]; kernel_rfl)
theorem two_new (w : World) (x : Value) : Blk ((w.alloc (.cells #[x] 41)).alloc (.cells #[.slice none 0 0] 41)) w.heap.size #[x] 41 ∧ Blk ((w.alloc (.cells #[x] 41)).alloc (.cells #[.slice none 0 0] 41)) (w.heap.size + 1) #[.slice none 0 0] 41 :=
  ⟨(Blk.new w _ _).alloc _, by have := Blk.new (w.alloc (.cells #[x] 41)) #[.slice none 0 0] 41; simpa using this⟩
set_option maxRecDepth 100000 in
set_option maxHeartbeats 4000000 in
theorem rtake_arg {w : World} {v : Value} {n : Nat} {U : Nat → Bool} (h : RM w v n U) (k : Int) (hk : k < 0 ∨ 8 < k) : Calls Tryd.prog 17 #[v, .int .i64 k] w fun e w' => e = .returned (.tuple #[v, .slice none 0 0, .int .i64 1]) ∧ Below w.heap.size w w' := by
  obtain ⟨b, c, rfl, hnc, hcm, hb, hcell⟩ := h
  obtain ⟨w1, hw1⟩ : ∃ w1, w1 = (w.alloc (.cells #[.slice (some ⟨b, 0, none⟩) n c] 41)).alloc (.cells #[.slice none 0 0] 41) := ⟨_, rfl⟩
  have HB := hid (show Blk w1 w.heap.size #[.slice (some ⟨b, 0, none⟩) n c] 41 by rw [hw1]; exact (two_new w _).1)
  have HR := hid (show Blk w1 (w.heap.size + 1) #[.slice none 0 0] 41 by rw [hw1]; exact (two_new w _).2)
  have HL := hid (show Below w.heap.size w w1 by rw [hw1]; exact ((Below.refl w.heap.size w).alloc (Nat.le_refl _) _).alloc (by simp) _)
  have cm : w1.cell? ⟨w.heap.size, 0, none⟩ = some (.slice (some ⟨b, 0, none⟩) n c) := HB.out.cellv rfl
  have cr : w1.cell? ⟨w.heap.size + 1, 0, none⟩ = some (.slice none 0 0) := HR.out.cellv rfl
  have fr := HR.out.frozen 0
  clear hcell
  go_enter Tryd.func17, Tryd.ntmps17
  go_upto_region 1 with fail
  rw [← hw1]
  clear hw1
  by_cases h0 : k < 0
  · clear hk
    go_wp2
    refine ret_map3 rfl rfl rfl rfl rfl (HR.out.set 0 (.slice (some ⟨b, 0, none⟩) n c)) rfl ⟨rfl, ?_⟩
    exact (((Mod.of_below HL.out (fun c => w.heap.size ≤ c)).setCell (p := ⟨w.heap.size + 1, 0, none⟩) (fun _ => Nat.le_succ _) _).below (Nat.le_refl _) (fun c hc h => by omega))
  · have h1 : 8 < k := by omega
    clear hk
    go_wp2
    refine ret_map3 rfl rfl rfl rfl rfl (HR.out.set 0 (.slice (some ⟨b, 0, none⟩) n c)) rfl ⟨rfl, ?_⟩
    exact (((Mod.of_below HL.out (fun c => w.heap.size ≤ c)).setCell (p := ⟨w.heap.size + 1, 0, none⟩) (fun _ => Nat.le_succ _) _).below (Nat.le_refl _) (fun c hc h => by omega))
set_option maxRecDepth 100000 in
set_option maxHeartbeats 4000000 in
theorem rtake_full {w : World} {v : Value} {n : Nat} {U : Nat → Bool} (h : RM w v n U) (hn : n ≤ 512) (k : Nat) (hk : k ≤ 8) (hf : (frees U n).length < k) : Calls Tryd.prog 17 #[v, .int .i64 k] w fun e w' => e = .returned (.tuple #[v, .slice none 0 0, .int .i64 7]) ∧ Below w.heap.size w w' := by
  have hlen := frees_len U n
  have hfr : (n : Int) - (cnt U n : Nat) < (k : Int) := by omega
  have HRM := hid h
  obtain ⟨b, c, rfl, hnc, hcm, hb, hcell⟩ := h
  obtain ⟨w1, hw1⟩ : ∃ w1, w1 = (w.alloc (.cells #[.slice (some ⟨b, 0, none⟩) n c] 41)).alloc (.cells #[.slice none 0 0] 41) := ⟨_, rfl⟩
  have HB := hid (show Blk w1 w.heap.size #[.slice (some ⟨b, 0, none⟩) n c] 41 by rw [hw1]; exact (two_new w _).1)
  have HR := hid (show Blk w1 (w.heap.size + 1) #[.slice none 0 0] 41 by rw [hw1]; exact (two_new w _).2)
  have HL := hid (show Below w.heap.size w w1 by rw [hw1]; exact ((Below.refl w.heap.size w).alloc (Nat.le_refl _) _).alloc (by simp) _)
  have cm : w1.cell? ⟨w.heap.size, 0, none⟩ = some (.slice (some ⟨b, 0, none⟩) n c) := HB.out.cellv rfl
  have k0 : (0 : Int) ≤ (k : Int) := Int.natCast_nonneg _
  have k1 : ¬ (8 : Int) < (k : Int) := by omega
  have FC := hid (fun w' (hR : RM w' (.agg #[.slice (some ⟨b, 0, none⟩) n c]) n U) => rfree_c hR hn)
  clear hcell hlen hf
  generalize (n : Int) - (cnt U n : Nat) = fre at *
  go_enter Tryd.func17, Tryd.ntmps17
  go_upto_region 1 with fail
  rw [← hw1]
  clear hw1
  go_wp2_with (go_at_call 23; refine (FC.out _ (HRM.out.below HL.out)).mono ?_; rintro e w2 ⟨rfl, Lx⟩; have HB2 := hid (HB.out.of_block (Lx.block _ HB.out.lt)); have HR2 := hid (HR.out.of_block (Lx.block _ HR.out.lt)); have L2 := hid (HL.out.trans (Lx.mono HL.out.size)); have cm2 := HB2.out.cellv (i := 0) rfl; have cr2 := HR2.out.cellv (i := 0) rfl; have fr2 := HR2.out.frozen 0; clear Lx)
  refine ret_map3 rfl rfl rfl rfl rfl (HR2.out.set 0 (.slice (some ⟨b, 0, none⟩) n c)) rfl ⟨rfl, ?_⟩
  exact (((Mod.of_below L2.out (fun c => w.heap.size ≤ c)).setCell (p := ⟨w.heap.size + 1, 0, none⟩) (fun _ => Nat.le_succ _) _).below (Nat.le_refl _) (fun c hc h => by omega))
end Go.Proofs.YtdmlldhlfofegaaDoor
