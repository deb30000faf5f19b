/- How many sectors are free; the lowest free one. -/
import Derived.Test.YtdmlldhlfofegaaDoorOnes
namespace Go.Proofs.YtdmlldhlfofegaaDoor
open Go.RowKit

def cnt (U : Nat → Bool) : Nat → Nat
  | 0 => 0
  | m + 1 => cnt U m + (U m).toNat
def sumw (X : Nat → W64) : Nat → Nat
  | 0 => 0
  | k + 1 => sumw X k + Pop.pc 64 (X k).toNat
theorem pc_le (m : Nat) : ∀ x, Pop.pc m x ≤ m := by
  induction m with
  | zero => intro x; simp [Pop.pc]
  | succ m ih => intro x; have := ih (x / 2); simp only [Pop.pc]; omega
theorem sumw_le (X : Nat → W64) (k : Nat) : sumw X k ≤ 64 * k := by
  induction k with
  | zero => simp [sumw]
  | succ k ih => have := pc_le 64 (X k).toNat; simp only [sumw]; omega
theorem cnt_part (X : Nat → W64) (k m : Nat) (hm : m ≤ 64) : cnt (used X) (64 * k + m) = cnt (used X) (64 * k) + Pop.pc m (X k).toNat := by
  induction m with
  | zero => simp [Pop.pc]
  | succ m ih =>
    rw [show 64 * k + (m + 1) = (64 * k + m) + 1 by omega, cnt, ih (by omega), Pop.pc_snoc]
    have : used X (64 * k + m) = (X k).toNat.testBit m := by
      unfold used
      rw [show (64 * k + m) / 64 = k by omega, show (64 * k + m) % 64 = m by omega]
      rfl
    rw [this]; omega
theorem cnt_words (X : Nat → W64) (k : Nat) : cnt (used X) (64 * k) = sumw X k := by
  induction k with
  | zero => rfl
  | succ k ih =>
    rw [show 64 * (k + 1) = 64 * k + 64 by omega, cnt_part X k 64 (by omega), ih, sumw]
theorem cnt_le (U : Nat → Bool) (m : Nat) : cnt U m ≤ m := by
  induction m with
  | zero => simp [cnt]
  | succ m ih => simp only [cnt]; cases U m <;> simp <;> omega
/-- Beyond the map no sector is used. -/
def Tight (n : Nat) (X : Nat → W64) : Prop := ∀ i, n ≤ i → i < 512 → used X i = false
theorem cnt_tight {n : Nat} {X : Nat → W64} (h : Tight n X) (hn : n ≤ 512) : cnt (used X) 512 = cnt (used X) n := by
  have key : ∀ d, n + d ≤ 512 → cnt (used X) (n + d) = cnt (used X) n := by
    intro d
    induction d with
    | zero => intro _; rfl
    | succ d ih =>
      intro hd
      rw [show n + (d + 1) = (n + d) + 1 by omega, cnt, ih (by omega), h (n + d) (by omega) (by omega)]; rfl
  have := key (512 - n) (by omega)
  rwa [show n + (512 - n) = 512 by omega] at this
theorem ones_k (w : World) {a : W64} {c : Nat} (h : Pop.pc 64 a.toNat = c) : Calls Tryd.prog 28 #[.int .u64 (v a)] w fun e w' => e = .returned (.int .i64 c) ∧ w = w' := by
  subst h; exact ones_c w a
def words (X : Nat → W64) : Array Value := #[.int .u64 (v (X 0)), .int .u64 (v (X 1)), .int .u64 (v (X 2)), .int .u64 (v (X 3)), .int .u64 (v (X 4)), .int .u64 (v (X 5)), .int .u64 (v (X 6)), .int .u64 (v (X 7))]
theorem words_at (X : Nat → W64) (k : Nat) (hk : k < 8) (w : World) : (Instr.index 62 (.agg #[.int .u64 (v (X 0)), .int .u64 (v (X 1)), .int .u64 (v (X 2)), .int .u64 (v (X 3)), .int .u64 (v (X 4)), .int .u64 (v (X 5)), .int .u64 (v (X 6)), .int .u64 (v (X 7))]) (.int .i64 k)).run Tryd.prog w = .ok (.int .u64 (v (X k))) w := by
  refine index_agg (P := Tryd.prog) Tryd.underlying62 Tryd.underlying61 (by kernel_rfl) hk ?_ w
  match k, hk with
  | 0, _ => rfl
  | 1, _ => rfl
  | 2, _ => rfl
  | 3, _ => rfl
  | 4, _ => rfl
  | 5, _ => rfl
  | 6, _ => rfl
  | 7, _ => rfl

set_option maxRecDepth 100000 in
set_option maxHeartbeats 2000000 in
theorem free_c {w : World} {b n : Nat} {X : Nat → W64} (M : MapAt w b n X) (hn : n ≤ 512) (ht : Tight n X) : Calls Tryd.prog 11 #[.pointer (some ⟨b, 0, none⟩)] w fun e w' => e = .returned (.int .i64 ((n : Int) - (cnt (used X) n : Nat))) ∧ w = w' := by
  have c1 : w.cell? ⟨b, 1, none⟩ = some (.int .u64 (v (X 0))) := M.word (k := 0) (by omega)
  have c2 : w.cell? ⟨b, 2, none⟩ = some (.int .u64 (v (X 1))) := M.word (k := 1) (by omega)
  have c3 : w.cell? ⟨b, 3, none⟩ = some (.int .u64 (v (X 2))) := M.word (k := 2) (by omega)
  have c4 : w.cell? ⟨b, 4, none⟩ = some (.int .u64 (v (X 3))) := M.word (k := 3) (by omega)
  have c5 : w.cell? ⟨b, 5, none⟩ = some (.int .u64 (v (X 4))) := M.word (k := 4) (by omega)
  have c6 : w.cell? ⟨b, 6, none⟩ = some (.int .u64 (v (X 5))) := M.word (k := 5) (by omega)
  have c7 : w.cell? ⟨b, 7, none⟩ = some (.int .u64 (v (X 6))) := M.word (k := 6) (by omega)
  have c8 : w.cell? ⟨b, 8, none⟩ = some (.int .u64 (v (X 7))) := M.word (k := 7) (by omega)
  have HM := hid M
  have HC := hid (show ∀ k, k = 8 → sumw X k = cnt (used X) n by rintro k rfl; rw [← cnt_words, ← cnt_tight ht hn])
  clear M ht
  go_enter Tryd.func11, Tryd.ntmps11
  go_wp2_with (go_at_call 25; refine (len_c HM.out).mono ?_; rintro e w' ⟨rfl, rfl⟩)
  clear c1 c2 c3 c4 c5 c6 c7 c8
  go_loop [3, 5, 15] (fun v3 _ v15 => ∃ k s : Nat, k ≤ 8 ∧ v15 = .int .i64 k ∧ v3 = .int .i64 ((n : Int) - s) ∧ s ≤ 64 * k ∧ Hid (∀ i, i = k → sumw X i = s)) (fun _ _ v15 => (8 - intOf v15).toNat)
  case atStart => exact ⟨0, 0, by omega, rfl, by simp, by omega, hid (fun i e => by rw [e]; rfl)⟩
  case round =>
    obtain ⟨k, s, hk, rfl, rfl, b1, HS⟩ := hrel
    obtain ⟨c, hc⟩ : ∃ c, Pop.pc 64 (X k).toNat = c := ⟨_, rfl⟩
    have b2 : c ≤ 64 := by rw [← hc]; exact pc_le 64 (X k).toNat
    have HS' := hid (show ∀ i, i = k + 1 → sumw X i = s + c from fun i e => by rw [e, ← hc, ← HS.out k rfl]; rfl)
    have C1 := hid (fun w => ones_k w hc)
    clear hc
    by_cases hlt : k < 8
    · have hx := words_at X k hlt w
      go_wp2_with (go_at_call 28; refine (C1.out _).mono ?_; rintro e w' ⟨rfl, rfl⟩)
      go_round
      case measure => simp [intOf]; omega
      case rel => exact ⟨k + 1, s + c, by omega, by go_num, by congr 1; omega, by omega, HS'⟩
    · have hk8 : k = 8 := by omega
      subst hk8
      go_wp2
      go_ret
      exact ⟨ret_int (by rw [← HC.out _ rfl, HS.out _ rfl]), rfl⟩
theorem free_nil (w : World) : Calls Tryd.prog 11 #[.pointer none] w fun e w' => e = .returned (.int .i64 0) ∧ w = w' := by
  go_enter Tryd.func11, Tryd.ntmps11
  go_wp2_with (go_at_call 25; refine (len_nil _).mono ?_; rintro e w' ⟨rfl, rfl⟩)
  go_ret
  exact ⟨rfl, rfl⟩
end Go.Proofs.YtdmlldhlfofegaaDoor
