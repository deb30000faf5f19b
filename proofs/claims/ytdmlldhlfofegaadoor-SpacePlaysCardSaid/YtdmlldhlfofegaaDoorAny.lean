/- A map stays a map, whatever is taken or given back; the plain law of a bit that is turned. -/
import Derived.Test.YtdmlldhlfofegaaDoorLoad
import Derived.Laws.IdiomStrings
namespace Go.Proofs.YtdmlldhlfofegaaDoor
open Go.RowKit

/-- A map that is sound lies at b. -/
def Sound (w : World) (b n : Nat) : Prop := ∃ X, MapAt w b n X ∧ Tight n X ∧ Lab X
theorem take_any {w : World} {b n : Nat} (h : Sound w b n) (T : Tab w) (hb0 : b ≠ 0) (hn : n ≤ 512) (N : Int) :
    Calls Tryd.prog 12 #[.pointer (some ⟨b, 0, none⟩), .int .i64 N] w fun e w' => ∃ v, e = .returned v ∧ Sound w' b n ∧ Mod (fun c => c = b) w w' := by
  obtain ⟨X, M, ht, hl⟩ := h
  by_cases harg : N < 0 ∨ 8 < N
  · refine (take_arg w b N harg).mono ?_
    rintro e w' ⟨rfl, rfl⟩
    exact ⟨_, rfl, ⟨X, M, ht, hl⟩, Mod.refl _ _⟩
  · obtain ⟨k, rfl⟩ : ∃ k : Nat, N = k := ⟨N.toNat, by omega⟩
    by_cases hf : (frees (used X) n).length < k
    · refine (take_full M hn ht k (by omega) hf).mono ?_
      rintro e w' ⟨rfl, rfl⟩
      exact ⟨_, rfl, ⟨X, M, ht, hl⟩, Mod.refl _ _⟩
    · refine (take_yes M T hb0 hn ht k (by omega) (by omega)).mono ?_
      rintro e w' ⟨vv, p, X', rfl, hE, hp, hX, M', _, R⟩
      exact ⟨_, rfl, ⟨X', M', tight_take ht hp hX, lab_take hl hX⟩, R⟩
theorem give_any {w : World} {b n : Nat} (h : Sound w b n) (hn : n ≤ 512) (A : Nat) (hA : A < 4294967296) :
    Calls Tryd.prog 14 #[.pointer (some ⟨b, 0, none⟩), .int .u32 (A : Int)] w fun e w' => ∃ v, e = .returned v ∧ Sound w' b n ∧ Mod (fun c => c = b) w w' := by
  obtain ⟨X, M, ht, hl⟩ := h
  by_cases hno : A < 4 ∨ n ≤ A ∨ used X A = false
  · refine (give_no M A hA hn hno).mono ?_
    rintro e w' ⟨rfl, rfl⟩
    exact ⟨_, rfl, ⟨X, M, ht, hl⟩, Mod.refl _ _⟩
  · have h4 : 4 ≤ A := by omega
    have h5 : A < n := by omega
    have h6 : used X A = true := by
      cases hu : used X A with
      | true => rfl
      | false => exact absurd (Or.inr (Or.inr hu)) hno
    refine (give_yes M A h4 h5 hn h6).mono ?_
    rintro e w' ⟨rfl, M', R⟩
    exact ⟨_, rfl, ⟨clrX X A, M', tight_clr ht, lab_clr hl h4⟩, R⟩
theorem Sound.block {w w' : World} {b n : Nat} (h : Sound w b n) (hb : w'.heap[b]? = w.heap[b]?) : Sound w' b n := by
  obtain ⟨X, M, h2⟩ := h
  exact ⟨X, Fn.of_block M hb, h2⟩
theorem Sound.lt {w : World} {b n : Nat} (h : Sound w b n) : b < w.heap.size := by obtain ⟨X, M, _⟩ := h; exact Fn.lt M
/-- The words of a map's bytes are used as the map is. -/
theorem used_bt (X : Nat → W64) (j : Nat) (hj : j < 512) : used (wordsOf (bt X)) j = used X j := by
  rw [used_words _ _ hj, bt_bit _ _ _ (by omega)]; congr 1; omega
theorem bt_bt (X : Nat → W64) (j : Nat) (hj : j < 64) : bt (wordsOf (bt X)) j = bt X j := by
  apply BitVec.eq_of_getLsbD_eq
  intro r hr
  rw [bt_bit _ _ _ hr, bt_bit _ _ _ hr, used_bt _ _ (by omega)]
theorem bt_words (B : Nat → W8) (j : Nat) (hj : j < 64) : bt (wordsOf B) j = B j := by
  apply BitVec.eq_of_getLsbD_eq
  intro r hr
  rw [bt_bit _ _ _ hr, used_words _ _ (by omega), show (8 * j + r) / 8 = j by omega, show (8 * j + r) % 8 = r by omega]
/-- The bit i is turned. -/
def turn (B : Nat → W8) (i : Nat) : Nat → W8 := fun k => if k = i / 8 then B k ^^^ (1#8 <<< (i % 8)) else B k
theorem one_bit8 (r j : Nat) (hj : j < 8) : (1#8 <<< r).getLsbD j = decide (j = r) := by
  rw [BitVec.getLsbD_shiftLeft]
  by_cases e : j = r
  · subst e; simp [hj]
  · rw [decide_eq_false e]
    by_cases e2 : j < r
    · simp [e2]
    · have : (1#8).getLsbD (j - r) = false := by simp; omega
      rw [this, Bool.and_false]
theorem used_turn (X : Nat → W64) (i j : Nat) (hj : j < 512) : used (wordsOf (turn (bt X) i)) j = (used X j ^^ decide (j = i)) := by
  rw [used_words _ _ hj]
  unfold turn
  by_cases e : j / 8 = i / 8
  · rw [if_pos e, BitVec.getLsbD_xor, bt_bit _ _ _ (by omega), one_bit8 _ _ (by omega), show 8 * (j / 8) + j % 8 = j by omega]
    congr 1
    apply decide_eq_decide.2
    omega
  · rw [if_neg e, bt_bit _ _ _ (by omega), show 8 * (j / 8) + j % 8 = j by omega, decide_eq_false (by rintro rfl; exact e rfl), Bool.xor_false]
theorem ok_bt {n : Nat} {X : Nat → W64} (ht : Tight n X) (hl : Lab X) : ∀ i, i < 512 → OkAt n (wordsOf (bt X)) i := fun i hi => ⟨fun h => by rw [used_bt _ _ hi]; exact hl i h, fun h => by rw [used_bt _ _ hi]; exact ht i h hi⟩
theorem ok_turn {n i : Nat} {X : Nat → W64} (ht : Tight n X) (hl : Lab X) (h4 : 4 ≤ i) (hn : i < n) : ∀ j, j < 512 → OkAt n (wordsOf (turn (bt X) i)) j := fun j hj => ⟨fun h => by rw [used_turn _ _ _ hj, hl j h, decide_eq_false (by omega)]; rfl, fun h => by rw [used_turn _ _ _ hj, ht j h hj, decide_eq_false (by omega)]; rfl⟩
theorem no_turn {n i : Nat} {X : Nat → W64} (ht : Tight n X) (hl : Lab X) (hi : i < 512) (h : i < 4 ∨ n ≤ i) : ¬ ∀ j, j < 512 → OkAt n (wordsOf (turn (bt X) i)) j := fun hk => by
  obtain ⟨k1, k2⟩ := hk i hi
  rw [used_turn _ _ _ hi] at k1 k2
  rcases h with h | h
  · have := k1 h
    rw [hl i h, decide_eq_true rfl] at this
    cases this
  · have := k2 h
    rw [ht i h hi, decide_eq_true rfl] at this
    cases this
theorem xor_byte (b : W8) (r : Nat) (hr : r < 8) : bits .xor .u8 (ub b) ((2 : Int) ^ r % 256) = ub (b ^^^ (1#8 <<< r)) := by
  have h8 : r = 0 ∨ r = 1 ∨ r = 2 ∨ r = 3 ∨ r = 4 ∨ r = 5 ∨ r = 6 ∨ r = 7 := by omega
  have key : ∀ c : W8, bits .xor .u8 (ub b) (ub c) = ub (b ^^^ c) := fun c => by
    show IntKind.u8.wrap _ = _
    have e : ∀ x : W8, BitVec.ofInt IntKind.u8.bits (ub x) = x := fun x => by
      show BitVec.ofInt 8 (ub x) = x
      unfold ub
      apply BitVec.eq_of_toNat_eq
      have := x.isLt
      rw [BitVec.toNat_ofInt]; omega
    rw [e, e]
    have := (b ^^^ c).isLt
    show IntKind.u8.wrap (((b ^^^ c).toNat : Nat) : Int) = (((b ^^^ c).toNat : Nat) : Int)
    generalize (b ^^^ c).toNat = x at *
    simp [IntKind.wrap, IntKind.bits, IntKind.signed]
    omega
  rcases h8 with rfl | rfl | rfl | rfl | rfl | rfl | rfl | rfl
  · exact key 1#8
  · exact key 2#8
  · exact key 4#8
  · exact key 8#8
  · exact key 16#8
  · exact key 32#8
  · exact key 64#8
  · exact key 128#8
/-- Bytes as a string. -/
def strOf (B : Nat → W8) (n : Nat) : ByteArray := ⟨((List.range n).map (fun j => (⟨B j⟩ : UInt8))).toArray⟩
theorem strOf_congr {B C : Nat → W8} {n : Nat} (h : ∀ j, j < n → B j = C j) : strOf B n = strOf C n := by
  unfold strOf
  congr 2
  exact List.map_congr_left (fun j hj => by rw [h j (List.mem_range.1 hj)])
theorem conv_bts {W : World} {p off cap n : Nat} {B : Nat → W8} (h : Bts W p off n B) : (convert 44 9 (.slice (some ⟨p, off, none⟩) n cap)).run Tryd.prog W = .ok (.string (strOf B n)) W := by
  have := run_convert_bytes_back (P := Tryd.prog) W 44 9 5 ⟨p, off, none⟩ cap ((List.range n).map (fun j => (⟨B j⟩ : UInt8))) Tryd.underlying44 Tryd.underlying5 Tryd.underlying9 (fun j hj => by
    have hj' : j < n := by simpa using hj
    have := h j hj'
    rw [Addr.add_mid, this, List.getElem_map, List.getElem_range]; rfl)
  simpa [strOf] using this
theorem bts_of_fn {w : World} {g n : Nat} {T : TypeId} {B : Nat → W8} (F : Fn w g T n (fun j => .int .u8 (ub (B j)))) : Bts w g 0 n B := fun i hi => by rw [Nat.zero_add]; exact F.cell hi
end Go.Proofs.YtdmlldhlfofegaaDoor
