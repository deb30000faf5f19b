/- SHA-256 by definition, on words of 32 bits and bytes; and that other ways to write its parts are the same. -/
import Derived.Test.YtkehejkjifgieaaShaRot
namespace Go.Proofs.Ytkehejkjifgieaa

abbrev W8 := BitVec 8
def z (b : W8) : W32 := b.setWidth 32
def sg0 (x : W32) : W32 := rotr x 7 ^^^ rotr x 18 ^^^ (x >>> 3)
def sg1 (y : W32) : W32 := rotr y 17 ^^^ rotr y 19 ^^^ (y >>> 10)
def Sg0 (a : W32) : W32 := rotr a 2 ^^^ rotr a 13 ^^^ rotr a 22
def Sg1 (e : W32) : W32 := rotr e 6 ^^^ rotr e 11 ^^^ rotr e 25
def ch (e f g : W32) : W32 := (e &&& f) ^^^ (~~~ e &&& g)
def maj (a b c : W32) : W32 := (a &&& b) ^^^ (a &&& c) ^^^ (b &&& c)
theorem ch_eq (e f g : W32) : g ^^^ (e &&& (f ^^^ g)) = ch e f g := by
  unfold ch
  apply BitVec.eq_of_getLsbD_eq
  intro i hi
  simp only [BitVec.getLsbD_xor, BitVec.getLsbD_and, BitVec.getLsbD_not, hi, decide_true, Bool.true_and]
  cases e.getLsbD i <;> cases f.getLsbD i <;> cases g.getLsbD i <;> rfl
theorem maj_eq (a b c : W32) : (a &&& b) ||| (c &&& (a ||| b)) = maj a b c := by
  unfold maj
  apply BitVec.eq_of_getLsbD_eq
  intro i hi
  simp only [BitVec.getLsbD_xor, BitVec.getLsbD_and, BitVec.getLsbD_or]
  cases a.getLsbD i <;> cases b.getLsbD i <;> cases c.getLsbD i <;> rfl

/-- The first sixteen words of a block of bytes. -/
def word (b : Nat → W8) (j : Nat) : W32 := (z (b (4 * j)) <<< 24) ||| (z (b (4 * j + 1)) <<< 16) ||| (z (b (4 * j + 2)) <<< 8) ||| z (b (4 * j + 3))
/-- A word of which n bytes are taken. -/
def pw (b : Nat → W8) (j : Nat) : Nat → W32
  | 0 => 0
  | n + 1 => (pw b j n <<< 8) ||| z (b (4 * j + n))
theorem pw_word (b : Nat → W8) (j : Nat) : pw b j 4 = word b j := by
  simp only [pw, word]
  simp only [BitVec.shiftLeft_or_distrib, ← BitVec.shiftLeft_add, Nat.reduceAdd, Nat.add_zero]
  rw [show (0 : W32) <<< 32 = 0#32 by decide, BitVec.zero_or]

/-- The words of a block, so many of them, the last one first. -/
def wl (b : Nat → W8) : Nat → List W32
  | 0 => []
  | n + 1 => (if n < 16 then word b n else sg1 ((wl b n).getD 1 0) + (wl b n).getD 6 0 + sg0 ((wl b n).getD 14 0) + (wl b n).getD 15 0) :: wl b n
def sched (b : Nat → W8) (t : Nat) : W32 := (wl b (t + 1)).getD 0 0
theorem wl_get (b : Nat → W8) : ∀ n i, i < n → (wl b n).getD i 0 = sched b (n - 1 - i) := by
  intro n
  induction n with
  | zero => intro i hi; omega
  | succ n ih =>
    intro i hi
    cases i with
    | zero => rfl
    | succ i =>
      rw [show n + 1 - 1 - (i + 1) = n - 1 - i by omega, ← ih i (by omega)]
      rfl
theorem sched_lo (b : Nat → W8) {t : Nat} (h : t < 16) : sched b t = word b t := by
  unfold sched; rw [wl]; simp [h]
theorem sched_hi (b : Nat → W8) {t : Nat} (h : 16 ≤ t) : sched b t = sg1 (sched b (t - 2)) + sched b (t - 7) + sg0 (sched b (t - 15)) + sched b (t - 16) := by
  have e : ∀ i, i < 16 → (wl b t).getD i 0 = sched b (t - 1 - i) := fun i hi => wl_get b t i (by omega)
  rw [sched, wl, if_neg (by omega), e 1 (by omega), e 6 (by omega), e 14 (by omega), e 15 (by omega)]
  rfl
theorem sched_hi' (b : Nat → W8) {t : Nat} (h : 16 ≤ t) : sched b (t - 16) + (sg0 (sched b (t - 15)) + sched b (t - 7) + sg1 (sched b (t - 2))) = sched b t := by
  rw [sched_hi b h]; ac_rfl

structure St where
  (a b c d e f g h : W32)
def St.get (s : St) : Nat → W32
  | 0 => s.a | 1 => s.b | 2 => s.c | 3 => s.d | 4 => s.e | 5 => s.f | 6 => s.g | _ => s.h
def rnd (s : St) (k x : W32) : St :=
  ⟨(s.h + Sg1 s.e + ch s.e s.f s.g + k + x) + (Sg0 s.a + maj s.a s.b s.c), s.a, s.b, s.c, s.d + (s.h + Sg1 s.e + ch s.e s.f s.g + k + x), s.e, s.f, s.g⟩
def kList : List Nat := [
  0x428a2f98, 0x71374491, 0xb5c0fbcf, 0xe9b5dba5, 0x3956c25b, 0x59f111f1, 0x923f82a4, 0xab1c5ed5,
  0xd807aa98, 0x12835b01, 0x243185be, 0x550c7dc3, 0x72be5d74, 0x80deb1fe, 0x9bdc06a7, 0xc19bf174,
  0xe49b69c1, 0xefbe4786, 0x0fc19dc6, 0x240ca1cc, 0x2de92c6f, 0x4a7484aa, 0x5cb0a9dc, 0x76f988da,
  0x983e5152, 0xa831c66d, 0xb00327c8, 0xbf597fc7, 0xc6e00bf3, 0xd5a79147, 0x06ca6351, 0x14292967,
  0x27b70a85, 0x2e1b2138, 0x4d2c6dfc, 0x53380d13, 0x650a7354, 0x766a0abb, 0x81c2c92e, 0x92722c85,
  0xa2bfe8a1, 0xa81a664b, 0xc24b8b70, 0xc76c51a3, 0xd192e819, 0xd6990624, 0xf40e3585, 0x106aa070,
  0x19a4c116, 0x1e376c08, 0x2748774c, 0x34b0bcb5, 0x391c0cb3, 0x4ed8aa4a, 0x5b9cca4f, 0x682e6ff3,
  0x748f82ee, 0x78a5636f, 0x84c87814, 0x8cc70208, 0x90befffa, 0xa4506ceb, 0xbef9a3f7, 0xc67178f2]
def kAt (t : Nat) : W32 := BitVec.ofNat 32 (kList.getD t 0)
def start : St := ⟨0x6a09e667, 0xbb67ae85, 0x3c6ef372, 0xa54ff53a, 0x510e527f, 0x9b05688c, 0x1f83d9ab, 0x5be0cd19⟩
def rnds (s : St) (b : Nat → W8) : Nat → St
  | 0 => s
  | t + 1 => rnd (rnds s b t) (kAt t) (sched b t)
def plus (s r : St) : St := ⟨s.a + r.a, s.b + r.b, s.c + r.c, s.d + r.d, s.e + r.e, s.f + r.f, s.g + r.g, s.h + r.h⟩
def comp (s : St) (b : Nat → W8) : St := plus s (rnds s b 64)
/-- What stands at a place of the wheel ahead of step t. -/
def wheelAt (b : Nat → W8) (t i : Nat) : W32 := sched b (i + 16 * ((max t 16 - 1 - i) / 16))
theorem wheel_lo (b : Nat → W8) {t i : Nat} (ht : t ≤ 16) (hi : i < 16) : wheelAt b t i = word b i := by
  unfold wheelAt
  rw [show max t 16 = 16 by omega, show (16 - 1 - i) / 16 = 0 by omega]
  exact sched_lo b hi
theorem wheel_get (b : Nat → W8) {t k : Nat} (ht : 16 ≤ t) (hk : k < t) (hk' : t ≤ k + 16) : wheelAt b t (k % 16) = sched b k := by
  unfold wheelAt
  rw [show max t 16 = t by omega]
  congr 1
  omega
theorem wheel_next (b : Nat → W8) {t i : Nat} (ht : 16 ≤ t) (hi : i < 16) : wheelAt b (t + 1) i = if i = t % 16 then sched b t else wheelAt b t i := by
  split
  · rename_i h
    subst h
    exact wheel_get b (by omega) (by omega) (by omega)
  · unfold wheelAt
    rw [show max (t + 1) 16 = t + 1 by omega, show max t 16 = t by omega]
    congr 2
    omega
end Go.Proofs.Ytkehejkjifgieaa
