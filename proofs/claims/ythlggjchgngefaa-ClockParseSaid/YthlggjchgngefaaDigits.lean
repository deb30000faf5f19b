/- A number's digits: the document. -/
import Derived.Test.YthlggjchgngefaaRefJoin
import Derived.Lib.ConvBytes
import Derived.Lib.AppendStr
import Derived.Laws.BytesArg
import Derived.Laws.IdiomStrings
namespace Go.Proofs.Ythlggjchgngefaa
open Go.RowKit

def cutn (n : Int) : Nat → Int
  | 0 => n
  | k + 1 => cutn n k / 10
theorem cutn_div (k : Nat) : ∀ n, cutn (n / 10) k = cutn n (k + 1) := by
  induction k with
  | zero => intro n; rfl
  | succ k ih => intro n; simp only [cutn] at ih ⊢; rw [ih]
theorem digs_cons (k : Nat) : ∀ n, Cal.digs (k + 1) n = UInt8.ofNat (48 + cutn n k % 10).toNat :: Cal.digs k n := by
  induction k with
  | zero => intro n; simp [Cal.digs, cutn]
  | succ k ih =>
    intro n
    rw [Cal.digs, ih (n / 10), cutn_div]
    rfl
theorem cutn_nn (k : Nat) {n : Int} (h : 0 ≤ n) : 0 ≤ cutn n k ∧ cutn n k ≤ n := by
  induction k with
  | zero => exact ⟨h, Int.le_refl _⟩
  | succ k ih => simp only [cutn]; omega
def str (l : List UInt8) : Value := .string ⟨l.toArray⟩

set_option maxRecDepth 100000 in
set_option maxHeartbeats 1000000 in
theorem digits_c (w : World) (n : Int) (many : Nat) (h0 : 0 ≤ n) (h1 : n ≤ 10000) (hm : many ≤ 10) : Calls Try.prog 32 #[.int .i64 n, .int .i64 many] w fun e w' => e = .returned (str (Cal.digs many n)) ∧ Below w.heap.size w w' := by
  go_enter Try.func32, Try.ntmps32
  go_wp2
  go_loopw [0, 5, 6] (fun v0 v5 v6 wr => ∃ k : Nat, k ≤ many ∧ v6 = .int .i64 k ∧ v0 = .int .i64 (cutn n k) ∧ v5 = str (Cal.digs k n) ∧ Hid (Below w.heap.size w wr)) (fun _ _ v6 _ => many - (intOf v6).toNat)
  case atStart => exact ⟨0, by omega, rfl, rfl, rfl, hid (Below.refl _ _)⟩
  case round =>
    obtain ⟨k, hk, rfl, rfl, rfl, L⟩ := hrel
    have c1 := (cutn_nn k h0).1
    have c2 := (cutn_nn k h0).2
    by_cases hlt : k < many
    · unfold str
      have hcv : (convert 59 9 (.slice (some ⟨wr.heap.size, 0, none⟩) 1 1)).run Try.prog (wr.alloc (.cells #[.int .u8 (48 + cutn n k % 10)] 5)) = .ok (.string ⟨[UInt8.ofNat (48 + cutn n k % 10).toNat].toArray⟩) (wr.alloc (.cells #[.int .u8 (48 + cutn n k % 10)] 5)) :=
        run_convert_bytes_back _ _ _ 5 ⟨wr.heap.size, 0, none⟩ 1 [UInt8.ofNat (48 + cutn n k % 10).toNat] Try.underlying59 Try.underlying5 Try.underlying9 (fun j hj => by
          have : j = 0 := by simpa using hj
          subst this
          have := (Blk.new wr #[.int .u8 (48 + cutn n k % 10)] 5).cellv (i := 0) rfl
          rw [show (⟨wr.heap.size, 0, none⟩ : Addr).add 0 = ⟨wr.heap.size, 0, none⟩ by rfl, this]
          congr 2
          simp
          omega)
      have hl : (Cal.digs k n).length ≤ 10 := by rw [Cal.digs_length]; omega
      have HD := hid (digs_cons k n)
      go_wp2
      go_roundw
      case measure => simp [intOf]; omega
      case rel => exact ⟨k + 1, by omega, by go_num, rfl, by rw [HD.out]; exact congrArg Value.string (by simp [ByteArray.ext_iff]), hid (L.out.alloc L.out.size _)⟩
    · have : k = many := by omega
      subst this
      go_wp2
      go_ret
      exact ⟨rfl, L.out⟩
end Go.Proofs.Ythlggjchgngefaa
