/- A hash's first digits: 'Text'. -/
import Derived.Test.YtoegpjfpfhjbkaaShaAll
import Derived.Maps.AppendAt
import Derived.Deep.RegionLaw
import Derived.Deep.AppendLies
import Derived.Laws.IdiomStrings
namespace Go.Proofs.Ytoegpjfpfhjbkaa
open Go.RowKit Go.ChangeMaps

def hexD : ByteArray := ⟨#[48, 49, 50, 51, 52, 53, 54, 55, 56, 57, 97, 98, 99, 100, 101, 102]⟩
theorem info5 : (Try.prog.info? 5).map (fun i => (i.zero, i.size, i.bytes)) = some (some (.int .u8 0), 1, 1) := by kernel_rfl
def dig (n : Nat) : Int := ((hexD.data[n]?.getD 0).toNat : Int)
def digits (b : Nat → W8) : Nat → List Int
  | 0 => []
  | n + 1 => digits b n ++ [dig ((b n).toNat / 16), dig ((b n).toNat % 16)]

def digU (b : Nat → W8) : Nat → List UInt8
  | 0 => []
  | n + 1 => digU b n ++ [hexD.data[(b n).toNat / 16]?.getD 0, hexD.data[(b n).toNat % 16]?.getD 0]
theorem digU_eq (b : Nat → W8) (n : Nat) : digits b n = (digU b n).map (fun c => (c.toNat : Int)) := by
  induction n with
  | zero => rfl
  | succ n ih => simp only [digits, digU, List.map_append, ih]; rfl
theorem digU_length (b : Nat → W8) (n : Nat) : (digU b n).length = 2 * n := by
  induction n with
  | zero => rfl
  | succ n ih => simp only [digU, List.length_append, ih]; simp; omega
theorem hex_at (i : Int) (n : Nat) (hi : i = (n : Int)) (hn : n < 16) (w : World) : (Instr.index 9 (.string hexD) (.int .u8 i)).run Try.prog w = .ok (.int .u8 (dig n)) w := by
  subst hi
  have : n = 0 ∨ n = 1 ∨ n = 2 ∨ n = 3 ∨ n = 4 ∨ n = 5 ∨ n = 6 ∨ n = 7 ∨ n = 8 ∨ n = 9 ∨ n = 10 ∨ n = 11 ∨ n = 12 ∨ n = 13 ∨ n = 14 ∨ n = 15 := by omega
  rcases this with rfl | rfl | rfl | rfl | rfl | rfl | rfl | rfl | rfl | rfl | rfl | rfl | rfl | rfl | rfl | rfl <;> rfl
theorem news_two (w : World) (x y : Value) (T : TypeId) : ∀ j u, [x, y][j]? = some u → (w.alloc (.cells #[x, y] T)).drew.cell? ((⟨w.heap.size, 0, none⟩ : Addr).add j) = some u := by
  intro j u h
  have := (Blk.new w #[x, y] T).cell j
  have e : (⟨w.heap.size, 0, none⟩ : Addr).add j = ⟨w.heap.size, j, none⟩ := by unfold Addr.add; split <;> simp_all
  rw [e]
  exact this.trans (by rw [← Array.getElem?_toList]; exact h)
theorem hex_val {i : Int} {n : Nat} (hi : i = (n : Int)) (hn : n < 16) : (((⟨#[48, 49, 50, 51, 52, 53, 54, 55, 56, 57, 97, 98, 99, 100, 101, 102]⟩ : ByteArray)[i.toNat]'(by subst hi; exact hn)).toNat : Int) = dig n := by
  subst hi
  have : n = 0 ∨ n = 1 ∨ n = 2 ∨ n = 3 ∨ n = 4 ∨ n = 5 ∨ n = 6 ∨ n = 7 ∨ n = 8 ∨ n = 9 ∨ n = 10 ∨ n = 11 ∨ n = 12 ∨ n = 13 ∨ n = 14 ∨ n = 15 := by omega
  rcases this with rfl | rfl | rfl | rfl | rfl | rfl | rfl | rfl | rfl | rfl | rfl | rfl | rfl | rfl | rfl | rfl <;> rfl
theorem and15 (b : W8) : bits .and .u8 (ub b) 15 = ((b.toNat % 16 : Nat) : Int) := by
  revert b; decide

set_option maxRecDepth 100000 in
set_option maxHeartbeats 2000000 in
theorem text_c (w : World) (xs : Array Value) (hs : xs.size = 32) (B : Nat → W8) (hx : ∀ i, i < 32 → xs[i]? = some (.int .u8 (ub (B i)))) :
    Calls Try.prog 12 #[.agg xs] w fun e w' => e = .returned (.string ⟨(digU B 4).toArray⟩) ∧ Below w.heap.size w w' := by
  obtain ⟨i0, hi, hz0, hz1, hz2⟩ := info_parts info5
  have F := hid (Fn.new w xs 23 hs hx)
  have L := hid ((Below.refl w.heap.size w).alloc (Nat.le_refl _) (.cells xs 23))
  clear hx hs
  go_enter Try.func12, Try.ntmps12
  go_wp2
  go_loopg [3, 5, 8] 4 (fun g v3 _ v8 wr => ∃ k : Nat, v8 = .int .i64 k ∧ g = 4 - k ∧ k ≤ 4 ∧ Hid (wr.ownsRow (w.heap.size + 1) 5 1 v3 (2 * k) ((digits B k).map (Value.int .u8))) ∧ Hid (Fn wr w.heap.size 23 32 (fun i => .int .u8 (ub (B i)))) ∧ Hid (Below w.heap.size w wr) ∧ Hid (w.heap.size + 1 ≤ wr.heap.size))
  case atStart => exact ⟨0, rfl, rfl, by omega, hid (World.ownsRow_nil _ _ _ _), F, L, hid (by simp)⟩
  case round =>
    obtain ⟨k, rfl, hg, hk, O, F1, L1, G1⟩ := hrel
    by_cases hk4 : k < 4
    · have c0 : wr.cell? ⟨w.heap.size, k, none⟩ = some (.int .u8 (ub (B k))) := F1.out.cell (by omega)
      have hl := F1.out.lt
      go_wp2
      have a0 : 0 ≤ ub (B k) := by unfold ub; omega
      have a1 : ub (B k) < 256 := by have := (B k).isLt; unfold ub; omega
      have a2 : 0 ≤ bits .and .u8 (ub (B k)) 15 := by rw [and15]; omega
      have a3 : bits .and .u8 (ub (B k)) 15 < 16 := by rw [and15]; omega
      have a4 : 0 ≤ ub (B k) / 16 := by omega
      have a5 : ub (B k) / 16 < 16 := by omega
      have OO := hid (show ∀ T x y, (wr.alloc (.cells #[x, y] T)).drew.ownsRow (w.heap.size + 1) 5 1 u3 (2 * k) ((digits B k).map (Value.int .u8)) from fun T x y => O.out.alloc _)
      have G2 := hid (show ∀ T x y, w.heap.size + 1 ≤ (wr.alloc (.cells #[x, y] T)).drew.heap.size from fun T x y => by have := G1.out; simp [World.drew]; omega)
      go_region_law (refine step_append_lies _ rfl (.tmp 12) (.tmp 19) 22 rfl (w.heap.size + 1) 5 i0 (.int .u8 0) 1 1 rfl hi hz0 hz1 hz2 rfl (by decide) u3 (2 * k) ((digits B k).map (Value.int .u8)) (by simp [Act.eval]) (OO.out _ _ _) ⟨wr.heap.size, 0, none⟩ 2 2 [_, _] (by simp [Act.eval]) rfl (news_two wr _ _ _) (by simp [Value.oneCell']) (by decide) (by unfold maxLen; omega) (by omega) (G2.out _ _ _) _ rfl ?_; intro g cap w1 O2 gr2 _ hgl)
      all_goals
        simp only [List.getElem_toArray, List.getElem_cons_succ, List.getElem_cons_zero, Act.put, List.setIfInBounds_toArray, List.set_cons_succ, List.set_cons_zero]
        have HO2 := hid O2
        have M2 := hid (show Mod (fun k => u3.ownBlock = some k) wr w1 from (((Mod.refl _ wr).alloc _).drew).trans (Mod.of_grown gr2 (fun k hk => hk)))
        have HO3 := hid (show ∀ g, u3.ownBlock = some g → w.heap.size + 1 ≤ g from fun g hg => by
          rcases O.out.2 with ⟨e, _⟩ | ⟨g', cap, cur, e, h1, _⟩
          · rw [e] at hg; cases hg
          · rw [e] at hg; cases hg; exact h1)
        clear O2 gr2 hgl
        go_wp2
        go_roundg (4 - (k + 1))
        case measure => omega
        case rel =>
          refine ⟨k + 1, by go_num, rfl, by omega, hid ?_, hid (F1.out.mod M2.out (fun h => by have := HO3.out _ h; omega)), hid (L1.out.trans (M2.out.below L1.out.size (fun c hc h => by have := HO3.out _ h; omega))), hid (by have := M2.out.size; have := G1.out; omega)⟩
          have h1 := hex_val (i := ub (B k) / 16) (n := (B k).toNat / 16) (by unfold ub; omega) (by have := (B k).isLt; omega)
          have h2 := hex_val (i := bits .and .u8 (ub (B k)) 15) (n := (B k).toNat % 16) (and15 (B k)) (by omega)
          have := HO2.out
          simp only [digits, List.map_append, List.map_cons, List.map_nil]
          rw [← h1, ← h2]
          exact this
    · have hk5 : k = 4 := by omega
      subst hk5
      obtain ⟨g, cap, cur, e3, g1, g2, g3, g4, g5, g6⟩ : ∃ g cap cur, u3 = .slice (some ⟨g, 0, none⟩) 8 cap ∧ w.heap.size + 1 ≤ g ∧ Blk wr g cur 5 ∧ 8 ≤ cap ∧ cap ≤ maxLen ∧ cur.size = cap * 1 ∧ cur.toList.take (8 * 1) = (digits B 4).map (Value.int .u8) := by
        rcases O.out.2 with ⟨_, h⟩ | h
        · omega
        · exact h
      subst e3
      have hcv : (convert 22 9 (.slice (some ⟨g, 0, none⟩) 8 cap)).run Try.prog wr = .ok (.string ⟨(digU B 4).toArray⟩) wr := by
        have hl := digU_length B 4
        have := run_convert_bytes_back (P := Try.prog) wr 22 9 5 ⟨g, 0, none⟩ cap (digU B 4) Try.underlying22 Try.underlying5 Try.underlying9 (fun j hj => by
          have e : (⟨g, 0, none⟩ : Addr).add j = ⟨g, j, none⟩ := by unfold Addr.add; split <;> simp_all
          rw [e]
          refine g2.cellv ?_
          rw [← Array.getElem?_toList, ← List.getElem?_take_of_lt (show j < 8 * 1 by omega), g6, digU_eq, List.map_map, List.getElem?_map, List.getElem?_eq_getElem hj]; rfl)
        rw [hl] at this; exact this
      clear g1 g2 g3 g4 g5 g6
      go_wp2
      go_ret
      exact ⟨rfl, L1.out⟩
end Go.Proofs.Ytoegpjfpfhjbkaa
