/- A number's digits, and a text: the program. -/
import Derived.Test.YthlggjchgngefaaRefText
import Derived.Test.YthlggjchgngefaaFn
import Derived.Maps.AppendAt
import Derived.Lib.AppendStr
namespace Go.Proofs.Ythlggjchgngefaa
open Go.RowKit

theorem info5 : (Try.prog.info? 5).map (fun i => (i.zero, i.size, i.bytes)) = some (some (.int .u8 0), 1, 1) := by kernel_rfl
def bv (l : List UInt8) : List Value := l.map fun b => Value.int .u8 b.toNat

theorem bv_append (a b : List UInt8) : bv (a ++ b) = bv a ++ bv b := by simp [bv]
theorem bv_str (s : ByteArray) : bv s.data.toList = Go.Lib.strCells s := rfl
/-- A digit of a number, as a cell. -/
def dgv (n : Int) (i : Nat) : Value := .int .u8 (48 + cutn n i % 10)
theorem digs_get (k : Nat) : ∀ n j, j < k → (bv (Cal.digs k n))[j]? = some (dgv n (k - 1 - j)) := by
  induction k with
  | zero => intro n j h; omega
  | succ k ih =>
    intro n j h
    rw [digs_cons]
    cases j with
    | zero =>
      simp [bv, dgv]
      omega
    | succ j =>
      have := ih n j (by omega)
      simp only [bv, List.map_cons, List.getElem?_cons_succ] at this ⊢
      rw [this, show k + 1 - 1 - (j + 1) = k - 1 - j by omega]
theorem own_lt {w : World} {base : Nat} {e : TypeId} {size n : Nat} {v : Value} {xs : List Value} (ho : w.ownsRow base e size v n xs) : ∀ k, v.ownBlock = some k → base ≤ k ∧ k < w.heap.size := by
  intro k hk
  rcases ho.2 with ⟨rfl, _⟩ | ⟨g, cap, cur, rfl, h1, h2, _⟩
  · cases hk
  · cases hk; exact ⟨h1, (Array.getElem?_eq_some_iff.1 h2).1⟩
theorem made (k : Nat) : ∃ C : Array Value, C.size = k ∧ (∀ j, j < k → C[j]? = some (.int .u8 0)) ∧ ∀ W : World, k ≤ 10 → (Instr.makeSlice 59 (.int .i64 k) (.int .i64 k)).run Try.prog W = .ok (.slice (some ⟨W.heap.size, 0, none⟩) k k) (W.alloc (.cells C 5)) := by
  obtain ⟨i0, hi, hz0, hz1, hz2⟩ := info_parts info5
  refine ⟨madeCells (Value.int .u8 0).cells (k * 1), by simp [size_madeCells], fun j hj => ?_, fun W hk => ?_⟩
  · simp [madeCells, Value.cells, hj, Nat.mod_one]
  · have := run_makeSlice (P := Try.prog) W 59 5 i0 (.int .u8 0) Try.underlying59 hi hz0 .i64 .i64 k k (by omega) (by omega) (by rw [hz1]; omega) (by rw [hz2]; omega) (by omega)
    rw [this, hz1]; simp

set_option maxRecDepth 100000 in
set_option maxHeartbeats 4000000 in
theorem put_c (w : World) (v : Value) (m : Nat) (xs : List UInt8) (base : Nat) (n : Int) (k : Nat) (s : ByteArray) (h0 : 0 ≤ n) (h1 : n < 10000) (hk : k ≤ 10) (hk0 : 0 < k) (hm : m ≤ 100) (hs : s.size ≤ 100) (hown : w.ownsRow base 5 1 v m (bv xs)) (hbase : base ≤ w.heap.size) :
    Calls Try.prog 31 #[v, .int .i64 n, .int .i64 k, .string s] w fun e w' => ∃ v', e = .returned v' ∧ w'.ownsRow base 5 1 v' (m + k + s.size) (bv (xs ++ Cal.digs k n ++ s.data.toList)) ∧ Below base w w' := by
  obtain ⟨i0, hi, hz0, hz1, hz2⟩ := info_parts info5
  have HO := hid hown
  clear hown
  obtain ⟨C, hC1, hC2, hC3⟩ := made k
  have hmk : (Instr.makeSlice 59 (.int .i64 k) (.int .i64 k)).run Try.prog w = .ok (.slice (some ⟨w.heap.size, 0, none⟩) k k) (w.alloc (.cells C 5)) := hC3 w hk
  have F0 := hid (Fn.new w C 5 hC1 hC2)
  have G0 := hid ((Below.refl w.heap.size w).alloc (Nat.le_refl _) (.cells C 5))
  clear hC1 hC2 hC3
  go_enter Try.func31, Try.ntmps31
  go_wp2_with fail
  go_loopg [1, 10] k (fun g v1 v10 wr => ∃ t : Nat, g = k - t ∧ t ≤ k ∧ v10 = .int .i64 ((k : Int) - 1 - t) ∧ v1 = .int .i64 (cutn n t) ∧ Hid (Fn wr w.heap.size 5 k (fun j => if k ≤ j + t then dgv n (k - 1 - j) else .int .u8 0)) ∧ Hid (Below w.heap.size w wr))
  case atStart => exact ⟨0, rfl, by omega, by simp, rfl, hid (F0.out.congr (fun j hj => by rw [if_neg (by omega)])), G0⟩
  case round =>
    obtain ⟨t, rfl, ht, rfl, rfl, F, G⟩ := hrel
    have c1 := (cutn_nn t h0).1
    have c2 := (cutn_nn t h0).2
    by_cases hlt : t < k
    · obtain ⟨i, hi2⟩ : ∃ i : Nat, i + t + 1 = k := ⟨k - 1 - t, by omega⟩
      have e1 : ((k : Int) - 1 - t) = (i : Int) := by omega
      have e2 : i < k := by omega
      rw [e1]
      have y1 : wr.cell? ⟨w.heap.size, i, none⟩ = some (.int .u8 0) := by
        have := F.out.cell e2; rw [if_neg (by omega)] at this; exact this
      have y2 : wr.frozen? ⟨w.heap.size, i, none⟩ = false := F.out.frozen _
      have y3 := F.out.lt
      clear e1
      have HI := hid hi2
      clear hi2
      go_wp2_with fail
      go_roundg (k - (t + 1))
      case measure => omega
      case rel =>
        have hi3 := HI.out
        refine ⟨t + 1, rfl, by omega, by congr 1; omega, rfl, hid ?_, hid ?_⟩
        · refine (F.out.set i _).congr (fun j hj => ?_)
          unfold set1
          dsimp only
          by_cases e : j = i
          · subst e
            rw [if_pos rfl, if_pos (by omega), dgv, show k - 1 - j = t by omega]
          · rw [if_neg e]
            by_cases e2 : k ≤ j + t
            · rw [if_pos e2, if_pos (by omega)]
            · rw [if_neg e2, if_neg (by omega)]
        · exact G.out.setCell (by simp) _
    · have : t = k := by omega
      subst this
      have hbl := F.out.lt
      have NW := hid (show ∀ j u, (bv (Cal.digs t n))[j]? = some u → wr.cell? ((⟨w.heap.size, 0, none⟩ : Addr).add j) = some u from fun j u hu => by
        have hj : j < t := by
          have := (List.getElem?_eq_some_iff.1 hu).1
          simpa [bv, Cal.digs_length] using this
        rw [digs_get t n j hj] at hu
        rw [Addr.add_mid, Nat.zero_add, ← hu]
        have := F.out.cell hj
        rw [if_pos (by omega)] at this
        exact this)
      have HL := hid (show (bv (Cal.digs t n)).length = t * 1 by simp [bv, Cal.digs_length])
      have H1 := hid (show ∀ u ∈ bv (Cal.digs t n), u.oneCell' = true by intro u hu; unfold bv at hu; obtain ⟨x, _, rfl⟩ := List.mem_map.1 hu; rfl)
      have O1 := hid (show wr.ownsRow base 5 1 v m (bv xs) from (Mod.of_below G.out (fun _ => False)).row HO.out (fun _ _ => id))
      have hb2 : base ≤ wr.heap.size := by omega
      go_wp2_with first
        | (at_builtin; refine Go.Lib.wpList_append_own_string _ rfl (.tmp 30) (.tmp 31) 59 9 rfl base 5 i0 rfl rfl hi hz0 hz1 hz2 v1 (m + t) _ rfl O2.out s rfl (by unfold maxLen; omega) (by omega) (by have := G2.out.size; omega) ?_; intro v2 w2 hown2 hg2 _; have O3 := hid hown2; have G3 := hid hg2; clear hown2 hg2)
        | (at_builtin; refine wpList_append_own_at _ rfl (.tmp 28) (.tmp 29) 59 rfl base 5 i0 (.int .u8 0) 1 1 rfl hi hz0 hz1 hz2 rfl (by decide) v m (bv xs) rfl O1.out ⟨w.heap.size, 0, none⟩ t t (bv (Cal.digs t n)) rfl HL.out NW.out H1.out (by unfold maxLen; omega) (by omega) hb2 ?_; intro v1 w1 hown1 hg1 _ hv1; have O2 := hid hown1; have G2 := hid hg1; have V1 := hid hv1; clear hown1 hg1 hv1)
      go_ret
      refine ⟨v2, rfl, ?_, ?_⟩
      · have := O3.out
        rw [bv_append, bv_append]; exact this
      · have M1 : Mod (fun k => base ≤ k) w wr := (Mod.of_below G.out _)
        have M2 : Mod (fun k => base ≤ k) wr w1 := Mod.of_grown G2.out (fun k hk => (own_lt O1.out k hk).1)
        have M3 : Mod (fun k => base ≤ k) w1 w2 := Mod.of_grown G3.out (fun k hk => (own_lt O2.out k hk).1)
        exact ((M1.trans M2).trans M3).below hbase (fun k hk h => by omega)
theorem put_i (w : World) (v : Value) (m : Nat) (xs : List UInt8) (base : Nat) (n k : Int) (s : ByteArray) (h0 : 0 ≤ n) (h1 : n < 10000) (hk0 : 0 < k) (hk : k ≤ 10) (hm : m ≤ 100) (hs : s.size ≤ 100) (hown : w.ownsRow base 5 1 v m (bv xs)) (hbase : base ≤ w.heap.size) :
    Calls Try.prog 31 #[v, .int .i64 n, .int .i64 k, .string s] w fun e w' => ∃ v', e = .returned v' ∧ w'.ownsRow base 5 1 v' (m + k.toNat + s.size) (bv (xs ++ Cal.digs k.toNat n ++ s.data.toList)) ∧ Below base w w' := by
  obtain ⟨k', rfl⟩ := Int.eq_ofNat_of_zero_le (Int.le_of_lt hk0)
  exact put_c w v m xs base n k' s h0 h1 (by omega) (by omega) hm hs hown hbase
end Go.Proofs.Ythlggjchgngefaa
