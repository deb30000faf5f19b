/- The document's map: Keep; whether numbers are alike. -/
import Derived.Test.YtdmlldhlfofegaaDoorRefTook
import Derived.Laws.Rows
namespace Go.Proofs.YtdmlldhlfofegaaDoor
open Go.RowKit

def keepU (l : Nat → Nat) : Nat → Nat → Bool
  | 0 => fun j => decide (j < 4)
  | k + 1 => fun j => keepU l k j || decide (j = l k)
theorem keepU_iff (l : Nat → Nat) : ∀ k j, keepU l k j = true ↔ j < 4 ∨ ∃ i, i < k ∧ l i = j
  | 0, j => by simp [keepU]
  | k + 1, j => by
    unfold keepU
    rw [Bool.or_eq_true, keepU_iff l k j, decide_eq_true_eq]
    constructor
    · rintro ((h | ⟨i, h1, h2⟩) | h)
      · exact Or.inl h
      · exact Or.inr ⟨i, by omega, h2⟩
      · exact Or.inr ⟨k, by omega, h.symm⟩
    · rintro (h | ⟨i, h1, h2⟩)
      · exact Or.inl (Or.inl h)
      · by_cases e : i = k
        · subst e; exact Or.inr h2.symm
        · exact Or.inl (Or.inr ⟨i, by omega, h2⟩)
theorem ret_map1 {w : World} {g : Nat} {cs : Array Value} {R : Ending → World → Prop} {a : Act} {fn : Func} {p : Tmp} (h : fn.results = #[.cell p 41]) (hd : a.defers = []) (hp : a.tmps.getD p undef = .pointer (some ⟨g, 0, none⟩)) (hg : Blk w g cs 41) (hz : cs.size = 1)
    (hR : R (.returned (.agg cs)) w) : bodyPost Tryd.prog fn R .ret a w :=
  bodyPost_ret (v := .agg cs) (results_cell_row (t := 41) (fr := (0, 0)) h _ _ g _ _ hp hg Tryd.underlying41 rfl (by rw [hz]; kernel_rfl)) hd hR
set_option maxRecDepth 100000 in
set_option maxHeartbeats 8000000 in
theorem rkeep_c {w : World} {v : Value} {n : Nat} {U : Nat → Bool} (h : RM w v n U) (h16 : 16 ≤ n) (hn : n ≤ 512) (q : Option Addr) (len cap : Nat) (l : Nat → Nat) (hl : U32s w q len l) (hlen : len ≤ 600) :
    Calls Tryd.prog 20 #[v, .slice q len cap] w fun e w' => ∃ v', e = .returned v' ∧ RM w' v' n (keepU l len) ∧ Below w.heap.size w w' := by
  obtain ⟨C, hC1, hC2, hmk⟩ := madeB n hn
  obtain ⟨b, c, rfl, hnc, hcm, hb, hcell⟩ := h
  have HLL := hid hl
  obtain ⟨w1, hw1⟩ : ∃ w1, w1 = (w.alloc (.cells #[.slice (some ⟨b, 0, none⟩) n c] 41)).alloc (.cells #[.slice none 0 0] 41) := ⟨_, rfl⟩
  have hs1 := hid (show w1.heap.size = w.heap.size + 2 by rw [hw1]; simp)
  have HB := hid (show Blk w1 w.heap.size #[.slice (some ⟨b, 0, none⟩) n c] 41 by rw [hw1]; exact (two_new w _).1)
  have HR := hid (show Blk w1 (w.heap.size + 1) #[.slice none 0 0] 41 by rw [hw1]; exact (two_new w _).2)
  have HL := hid (show Below w.heap.size w w1 by rw [hw1]; exact ((Below.refl w.heap.size w).alloc (Nat.le_refl _) _).alloc (by simp) _)
  have cm : w1.cell? ⟨w.heap.size, 0, none⟩ = some (.slice (some ⟨b, 0, none⟩) n c) := HB.out.cellv rfl
  have F0 := hid (Fn.new w1 C 4 (n := n) (f := fun _ => .bool false) hC1 hC2)
  have L0 := hid ((Below.refl w1.heap.size w1).alloc (Nat.le_refl _) (.cells C 4))
  have n0 : (0 : Int) ≤ (n : Int) := Int.natCast_nonneg _
  have n1 : IntKind.u64.wrap (n : Int) = (n : Int) := by simp [IntKind.wrap, IntKind.bits, IntKind.signed]; omega
  have hlen' : (len : Int) ≤ 600 := by omega
  clear hcell hC1 hC2 hl
  go_enter Tryd.func20, Tryd.ntmps20
  go_upto_region 1 with fail
  rw [← hw1]
  clear hw1
  go_wp2
  have HS1 := hs1
  go_loopg [6] 4 (fun gk v6 wr => ∃ i : Nat, v6 = .int .i64 i ∧ gk = 4 - i ∧ i ≤ 4 ∧ Hid (Fn wr w1.heap.size 4 n (fun j => .bool (decide (j < i)))) ∧ Hid (Mod (fun c => c = w1.heap.size) w1 wr))
  case atStart => exact ⟨0, rfl, rfl, by omega, hid (F0.out.congr (fun j hj => by rw [decide_eq_false (by omega)])), hid (Mod.of_below L0.out _)⟩
  case round =>
    obtain ⟨i, rfl, hg, hi, FI, MI⟩ := hrel
    by_cases hi4 : i < 4
    · have c0 : wr.cell? ⟨w1.heap.size, i, none⟩ = some (.bool false) := by have := FI.out.cell (j := i) (by omega); rwa [decide_eq_false (by omega)] at this
      have f0 : wr.frozen? ⟨w1.heap.size, i, none⟩ = false := FI.out.frozen _
      have m0 : (0 : Int) ≤ (i : Int) := Int.natCast_nonneg _
      have m1 : (i : Int) < (n : Int) := by omega
      have m2 : (i : Int) < 4 := by omega
      go_wp2
      go_roundg (4 - (i + 1))
      case measure => omega
      case rel =>
        refine ⟨i + 1, by go_num, rfl, by omega, hid ((FI.out.set i (.bool true)).congr (fun j hj => ?_)), hid (MI.out.setCell (p := ⟨w1.heap.size, i, none⟩) (fun _ => rfl) _)⟩
        unfold set1
        by_cases e : j = i
        · subst e; rw [if_pos rfl, decide_eq_true (by omega)]
        · rw [if_neg e, decide_eq_decide.2 (show j < i + 1 ↔ j < i by omega)]
    · have hi2 : i = 4 := by omega
      subst hi2
      have FK := hid (show Fn wr w1.heap.size 4 n (fun j => .bool (keepU l 0 j)) from FI.out)
      clear hg hi hi4
      go_wp2
      go_loopg [7] len (fun gk v7 wr => ∃ i : Nat, v7 = .int .i64 i ∧ gk = len - i ∧ i ≤ len ∧ Hid (Fn wr w1.heap.size 4 n (fun j => .bool (keepU l i j))) ∧ Hid (Mod (fun c => c = w1.heap.size) w1 wr))
      case atStart => exact ⟨0, rfl, rfl, by omega, FK, MI⟩
      case round =>
        obtain ⟨i, rfl, hg, hi, FJ, MJ⟩ := hrel
        have L6 := hid (show Below w.heap.size w wr from HL.out.trans (MJ.out.below HL.out.size (fun c hc h => by have := HS1.out; omega)))
        by_cases hil : i < len
        · obtain ⟨hl32, qb, qo, hq, hqb, hcl⟩ := HLL.out i hil
          subst hq
          have cq : wr.cell? ⟨qb, qo + i, none⟩ = some (.int .u32 (l i : Int)) := (L6.out.cell hqb).trans hcl
          have m0 : (0 : Int) ≤ (i : Int) := Int.natCast_nonneg _
          have m1 : (i : Int) < (len : Int) := by omega
          have HK := hid (show keepU l (i + 1) = fun j => keepU l i j || decide (j = l i) from rfl)
          have m3 : IntKind.u64.wrap (l i : Int) = (l i : Int) := by simp [IntKind.wrap, IntKind.bits, IntKind.signed]; omega
          obtain ⟨x, hx⟩ : ∃ x, x = l i := ⟨_, rfl⟩
          rw [← hx] at cq m3 HK
          clear hx hcl
          by_cases hxn : x < n
          · have m4 : (x : Int) < (n : Int) := by omega
            have m5 : (0 : Int) ≤ (x : Int) := Int.natCast_nonneg _
            have cx : wr.cell? ⟨w1.heap.size, x, none⟩ = some (.bool (keepU l i x)) := FJ.out.cell hxn
            have fx : wr.frozen? ⟨w1.heap.size, x, none⟩ = false := FJ.out.frozen _
            go_wp2
            go_roundg (len - (i + 1))
            case measure => omega
            case rel =>
              refine ⟨i + 1, by go_num, rfl, by omega, hid ((FJ.out.set x (.bool true)).congr (fun j hj => ?_)), hid (MJ.out.setCell (p := ⟨w1.heap.size, x, none⟩) (fun _ => rfl) _)⟩
              rw [HK.out]
              unfold set1
              by_cases e : j = x
              · subst e; rw [if_pos rfl]; simp
              · rw [if_neg e]; simp [e]
          · have m4 : ¬ (x : Int) < (n : Int) := by omega
            go_wp2
            go_roundg (len - (i + 1))
            case measure => omega
            case rel =>
              refine ⟨i + 1, by go_num, rfl, by omega, hid (FJ.out.congr (fun j hj => ?_)), MJ⟩
              rw [HK.out]
              have : j ≠ x := by omega
              simp [this]
        · have hi2 : i = len := by omega
          subst hi2
          clear hg hi hil
          have HRr := hid (HR.out.of_block (MJ.out.block _ HR.out.lt (by have := HS1.out; omega)))
          have cr : wr.cell? ⟨w.heap.size + 1, 0, none⟩ = some (.slice none 0 0) := HRr.out.cellv rfl
          have fr := HRr.out.frozen 0
          go_wp2
          have FF := FJ.out.other (a := ⟨w.heap.size + 1, 0, none⟩) (by show w.heap.size + 1 ≠ w1.heap.size; have := HS1.out; omega) (.slice (some ⟨w1.heap.size, 0, none⟩) n n)
          refine ret_map1 rfl rfl rfl (HRr.out.set 0 (.slice (some ⟨w1.heap.size, 0, none⟩) n n)) rfl ⟨_, rfl, ⟨_, _, rfl, Nat.le_refl _, by omega, FF.lt, fun j hj => FF.cell hj⟩, ?_⟩
          exact (((Mod.of_below L6.out (fun c => w.heap.size ≤ c)).setCell (p := ⟨w.heap.size + 1, 0, none⟩) (fun _ => Nat.le_succ _) _).below (Nat.le_refl _) (fun c hc h => by omega))
/-- Numbers in memory, as a row that was made. -/
def Row32 (w : World) (p : Option Addr) (l : List Nat) : Prop := ∀ (i x : Nat), l[i]? = some x → ∃ g, p = some ⟨g, 0, none⟩ ∧ l.length ≤ 9223372036854775807 ∧ g < w.heap.size ∧ w.cell? ⟨g, i, none⟩ = some (.int .u32 (x : Int))
theorem Row32.below {w w' : World} {p : Option Addr} {l : List Nat} (h : Row32 w p l) (hb : Below w.heap.size w w') : Row32 w' p l := fun i x hx => by
  obtain ⟨g, h1, h2, h3, h4⟩ := h i x hx
  exact ⟨g, h1, h2, Nat.lt_of_lt_of_le h3 hb.size, (hb.cell h3).trans h4⟩
theorem Row32.nil (w : World) (p : Option Addr) : Row32 w p [] := fun i x hx => by simp at hx
set_option maxRecDepth 100000 in
set_option maxHeartbeats 4000000 in
theorem same_c {w : World} {p q : Option Addr} {l : List Nat} (c c' : Nat) (hl : l.length ≤ 8) (hp : Row32 w p l) (hq : Row32 w q l) : Calls Tryd.prog 21 #[.slice p l.length c, .slice q l.length c'] w fun e w' => e = .returned (.bool true) ∧ Below w.heap.size w w' := by
  have HP := hid hp
  have HQ := hid hq
  obtain ⟨n, hn⟩ : ∃ n, n = l.length := ⟨_, rfl⟩
  have HN := hid hn
  rw [← hn] at hl ⊢
  clear hp hq hn
  have n0 : (0 : Int) ≤ (n : Int) := Int.natCast_nonneg _
  go_enter Tryd.func21, Tryd.ntmps21
  go_wp2
  go_loopg [5] n (fun gk v5 wr => ∃ i : Nat, v5 = .int .i64 i ∧ gk = n - i ∧ i ≤ n ∧ Hid (Below w.heap.size w wr))
  case atStart => exact ⟨0, rfl, rfl, by omega, hid (Below.refl _ _)⟩
  case round =>
    obtain ⟨i, rfl, hg, hi, L⟩ := hrel
    by_cases hin : i < n
    · obtain ⟨x, hx⟩ : ∃ x, l[i]? = some x := ⟨_, List.getElem?_eq_getElem (by have := HN.out; omega)⟩
      obtain ⟨g, rfl, _, hg1, hg2⟩ := HP.out i x hx
      obtain ⟨g', rfl, _, hg1', hg2'⟩ := HQ.out i x hx
      have c1 : wr.cell? ⟨g, i, none⟩ = some (.int .u32 (x : Int)) := (L.out.cell hg1).trans hg2
      have c2 : wr.cell? ⟨g', i, none⟩ = some (.int .u32 (x : Int)) := (L.out.cell hg1').trans hg2'
      have m0 : (0 : Int) ≤ (i : Int) := Int.natCast_nonneg _
      have m1 : (i : Int) < (n : Int) := by omega
      clear hg2 hg2' hx
      go_upto_region 6 with fail
      go_region
      go_wp2
      go_roundg (n - (i + 1))
      case measure => omega
      case rel => exact ⟨i + 1, by go_num, rfl, by omega, hid L.out.drew⟩
    · have hi2 : i = n := by omega
      subst hi2
      clear hg hi hin
      go_wp2
      go_ret
      exact ⟨rfl, L.out⟩
end Go.Proofs.YtdmlldhlfofegaaDoor
