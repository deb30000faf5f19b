/- How many bits of a word are set; no walk. -/
namespace Go.Proofs.YtdmlldhlfofegaaDoor.Pop

/-- How many of the first n bits are set. -/
def pc : Nat → Nat → Nat
  | 0, _ => 0
  | n + 1, x => x % 2 + pc n (x / 2)
theorem pc_split (n : Nat) : ∀ m a R, a < 2 ^ m → pc (m + n) (a + 2 ^ m * R) = pc m a + pc n R := by
  intro m
  induction m with
  | zero => intro a R h; have : a = 0 := by simpa using h
            subst this; simp [pc]
  | succ m ih =>
    intro a R h
    have e1 : m + 1 + n = (m + n) + 1 := by omega
    have hp : 2 ^ (m + 1) = 2 * 2 ^ m := by rw [Nat.pow_succ, Nat.mul_comm]
    have e2 : (a + 2 ^ (m + 1) * R) % 2 = a % 2 := by
      rw [hp, Nat.mul_assoc]; omega
    have e3 : (a + 2 ^ (m + 1) * R) / 2 = a / 2 + 2 ^ m * R := by
      rw [hp, Nat.mul_assoc]; omega
    rw [e1, pc, e2, e3, ih (a / 2) R (by omega), pc]; omega
theorem pc_snoc (m : Nat) : ∀ x, pc (m + 1) x = pc m x + (x.testBit m).toNat := by
  induction m with
  | zero => intro x; simp [pc, Nat.testBit_zero]; rcases Nat.mod_two_eq_zero_or_one x with h | h <;> simp [h]
  | succ m ih =>
    intro x
    rw [pc, ih (x / 2), pc, Nat.testBit_succ]; omega
/-- A number by its bytes. -/
def ofB : List Nat → Nat
  | [] => 0
  | a :: l => a + 256 * ofB l
theorem land_split {a b A B : Nat} (ha : a < 256) (hb : b < 256) : (a + 256 * A) &&& (b + 256 * B) = (a &&& b) + 256 * (A &&& B) := by
  apply Nat.eq_of_testBit_eq
  intro i
  have hab : a &&& b < 2 ^ 8 := Nat.and_lt_two_pow a hb
  have T : ∀ {x y : Nat}, x < 2 ^ 8 → (x + 256 * y).testBit i = if i < 8 then x.testBit i else y.testBit (i - 8) := fun {x y} hx => by
    rw [Nat.add_comm, show 256 * y = 2 ^ 8 * y from rfl, Nat.testBit_two_pow_mul_add y hx]
  rw [Nat.testBit_and, T ha, T hb, T hab]
  split
  · rw [Nat.testBit_and]
  · rw [Nat.testBit_and]
theorem land_low {a R b k : Nat} (hb : b < 2 ^ k) : (a + 2 ^ k * R) &&& b = a % 2 ^ k &&& b := by
  apply Nat.eq_of_testBit_eq
  intro i
  rw [Nat.testBit_and, Nat.testBit_and]
  by_cases h : i < k
  · congr 1
    rw [Nat.testBit_mod_two_pow, decide_eq_true h, Bool.true_and]
    have : (a + 2 ^ k * R) % 2 ^ k = a % 2 ^ k := by simp
    have h1 : ((a + 2 ^ k * R) % 2 ^ k).testBit i = (a + 2 ^ k * R).testBit i := by rw [Nat.testBit_mod_two_pow, decide_eq_true h, Bool.true_and]
    rw [← h1, this, Nat.testBit_mod_two_pow, decide_eq_true h, Bool.true_and]
  · have : b.testBit i = false := Nat.testBit_lt_two_pow (Nat.lt_of_lt_of_le hb (Nat.pow_le_pow_right (by omega) (by omega)))
    rw [this, Bool.and_false, Bool.and_false]
def Bytes (l : List Nat) : Prop := ∀ a ∈ l, a < 256
theorem and_bytes (m : Nat) (hm : m < 256) : ∀ l, Bytes l → ofB l &&& ofB (l.map fun _ => m) = ofB (l.map fun a => a &&& m) := by
  intro l
  induction l with
  | nil => intro _; simp [ofB]
  | cons a l ih =>
    intro h
    simp only [List.map_cons, ofB]
    rw [land_split (h a List.mem_cons_self) hm, ih (fun x hx => h x (List.mem_cons_of_mem _ hx))]
theorem shr_bytes (s m : Nat) (hs : s ≤ 8) (hm : m < 2 ^ (8 - s)) : ∀ l, Bytes l → (ofB l / 2 ^ s) &&& ofB (l.map fun _ => m) = ofB (l.map fun a => (a / 2 ^ s) &&& m) := by
  intro l
  have h8 : 256 = 2 ^ s * 2 ^ (8 - s) := by rw [← Nat.pow_add, show s + (8 - s) = 8 by omega]
  have hm256 : m < 256 := by
    have : 2 ^ (8 - s) ≤ 2 ^ 8 := Nat.pow_le_pow_right (by omega) (by omega)
    omega
  induction l with
  | nil => intro _; simp [ofB]
  | cons a l ih =>
    intro h
    have ha := h a List.mem_cons_self
    simp only [List.map_cons, ofB]
    have hp : 0 < 2 ^ s := Nat.pow_pos (by omega)
    have e1 : (a + 256 * ofB l) / 2 ^ s = a / 2 ^ s + 2 ^ (8 - s) * ofB l := by
      rw [h8, Nat.mul_assoc, Nat.add_mul_div_left _ _ hp]
    have e2 : a / 2 ^ s + 2 ^ (8 - s) * ofB l = (a / 2 ^ s + 2 ^ (8 - s) * (ofB l % 2 ^ s)) + 256 * (ofB l / 2 ^ s) := by
      have := Nat.div_add_mod (ofB l) (2 ^ s)
      conv => lhs; rw [← this]
      rw [h8, Nat.mul_add, ← Nat.mul_assoc, Nat.mul_comm (2 ^ (8 - s)) (2 ^ s)]
      omega
    have hlow : a / 2 ^ s < 2 ^ (8 - s) := by
      rw [Nat.div_lt_iff_lt_mul hp, Nat.mul_comm, ← h8]; exact ha
    have hr : ofB l % 2 ^ s < 2 ^ s := Nat.mod_lt _ hp
    have hb : a / 2 ^ s + 2 ^ (8 - s) * (ofB l % 2 ^ s) < 256 := by
      have h1 : 2 ^ (8 - s) * (ofB l % 2 ^ s) ≤ 2 ^ (8 - s) * (2 ^ s - 1) := Nat.mul_le_mul_left _ (by omega)
      have h2 : 2 ^ (8 - s) * (2 ^ s - 1) = 256 - 2 ^ (8 - s) := by
        rw [Nat.mul_sub, Nat.mul_one, Nat.mul_comm, ← h8]
      have h3 : 2 ^ (8 - s) ≤ 2 ^ 8 := Nat.pow_le_pow_right (by omega) (by omega)
      omega
    rw [e1, e2, land_split hb hm256, ih (fun x hx => h x (List.mem_cons_of_mem _ hx)), land_low hm, Nat.mod_eq_of_lt hlow]
theorem add_bytes (f g : Nat → Nat) : ∀ l : List Nat, ofB (l.map f) + ofB (l.map g) = ofB (l.map fun a => f a + g a) := by
  intro l
  induction l with
  | nil => rfl
  | cons a l ih =>
    simp only [List.map_cons, ofB]
    have := ih; omega
def g1 (a : Nat) : Nat := (a / 2 ^ 1 &&& 85) + (a &&& 85)
def g2 (a : Nat) : Nat := (a / 2 ^ 2 &&& 51) + (a &&& 51)
def g3 (a : Nat) : Nat := a / 16 + a % 16
theorem g_all : ((List.range 256).all fun a => decide (g1 a < 256 ∧ g2 (g1 a) < 256 ∧ g2 (g1 a) / 16 ≤ 4 ∧ g2 (g1 a) % 16 ≤ 4 ∧ g3 (g2 (g1 a)) = pc 8 a ∧ pc 8 a ≤ 8)) = true := by decide +kernel
theorem g_at {a : Nat} (h : a < 256) : g1 a < 256 ∧ g2 (g1 a) < 256 ∧ g2 (g1 a) / 16 ≤ 4 ∧ g2 (g1 a) % 16 ≤ 4 ∧ g3 (g2 (g1 a)) = pc 8 a ∧ pc 8 a ≤ 8 := of_decide_eq_true (List.all_eq_true.1 g_all a (List.mem_range.2 h))
def Nibs (l : List Nat) : Prop := ∀ a ∈ l, a < 256 ∧ a / 16 ≤ 4 ∧ a % 16 ≤ 4
theorem low_nib : ∀ l, Nibs l → ofB l % 16 ≤ 4 := by
  intro l h
  cases l with
  | nil => simp [ofB]
  | cons a l => have := h a List.mem_cons_self; simp only [ofB]; omega
theorem and15 (x : Nat) : x &&& 15 = x % 16 := Nat.and_two_pow_sub_one_eq_mod x 4
theorem nib_bytes : ∀ l : List Nat, Nibs l → (ofB l / 16 + ofB l) &&& ofB (l.map fun _ => 15) = ofB (l.map g3) := by
  intro l
  induction l with
  | nil => intro _; simp [ofB]
  | cons a l ih =>
    intro h
    have ha := h a List.mem_cons_self
    have hl : Nibs l := fun x hx => h x (List.mem_cons_of_mem _ hx)
    have hn := low_nib l hl
    simp only [List.map_cons, ofB]
    have e : (a + 256 * ofB l) / 16 + (a + 256 * ofB l) = (a / 16 + a + 16 * (ofB l % 16)) + 256 * (ofB l / 16 + ofB l) := by omega
    rw [e, land_split (by omega) (by omega), ih hl, and15]
    unfold g3
    omega
theorem pc_bytes : ∀ l, Bytes l → pc (8 * l.length) (ofB l) = (l.map (pc 8)).sum := by
  intro l
  induction l with
  | nil => intro _; rfl
  | cons a l ih =>
    intro h
    have ha := h a List.mem_cons_self
    simp only [List.map_cons, List.sum_cons, ofB, List.length_cons]
    rw [show 8 * (l.length + 1) = 8 + 8 * l.length by omega, show 256 * ofB l = 2 ^ 8 * ofB l from rfl, pc_split _ 8 a _ (by omega), ih (fun x hx => h x (List.mem_cons_of_mem _ hx))]
theorem up_y {a0 a1 t1 t2 x y : Nat} (h0 : a0 ≤ 8) (h1 : a1 ≤ 8) (b : t2 ≤ 8830587504648) (e1 : t1 = a1 + 256 * t2) (hx : x = a0 + 256 * t1) (hy : y = (x + x / 256) % 18446744073709551616) : y = (a0 + a1) + 256 * (t1 + t2) := by
  have k1 : x / 256 = t1 := by omega
  rw [k1, Nat.mod_eq_of_lt (by omega)] at hy
  omega
theorem up_z {a0 a1 a2 a3 t1 t2 t3 t4 y z : Nat} (h0 : a0 ≤ 8) (h1 : a1 ≤ 8) (h2 : a2 ≤ 8) (h3 : a3 ≤ 8) (b : t4 ≤ 134744072) (e1 : t1 = a1 + 256 * t2) (e2 : t2 = a2 + 256 * t3) (e3 : t3 = a3 + 256 * t4) (hy : y = (a0 + a1) + 256 * (t1 + t2)) (hz : z = (y + y / 65536) % 18446744073709551616) : z = (a0 + a1 + a2 + a3) + 256 * (t1 + t2 + t3 + t4) := by
  have k1 : y = (a0 + a1) + 256 * (a1 + a2) + 65536 * (t2 + t3) := by omega
  have k3 : y / 65536 = t2 + t3 := by omega
  rw [k3, Nat.mod_eq_of_lt (by omega)] at hz
  omega
theorem up_t {A0 A1 A2 A3 A4 s1 s2 s3 s4 s5 z t : Nat} (h0 : A0 ≤ 32) (h1 : A1 ≤ 32) (h2 : A2 ≤ 32) (h3 : A3 ≤ 32) (h4 : A4 ≤ 32) (b : s5 ≤ 1000000) (e1 : s1 = A1 + 256 * s2) (e2 : s2 = A2 + 256 * s3) (e3 : s3 = A3 + 256 * s4) (e4 : s4 = A4 + 256 * s5) (hz : z = A0 + 256 * s1) (ht : t = (z + z / 4294967296) % 18446744073709551616) : t % 128 = A0 + A4 := by
  have k1 : z = A0 + 256 * A1 + 65536 * A2 + 16777216 * A3 + 4294967296 * s4 := by omega
  have k9 : z / 4294967296 = s4 := by omega
  rw [k9, Nat.mod_eq_of_lt (by omega)] at ht
  omega
theorem bnd {a t T B : Nat} (e : t = a + 256 * T) (ha : a ≤ 8) (hT : T ≤ B) : t ≤ 8 + 256 * B := by omega
theorem lin4 {a b c d p q r s t : Nat} (e1 : p = a + 256 * q) (e2 : q = b + 256 * r) (e3 : r = c + 256 * s) (e4 : s = d + 256 * t) : p + q + r + s = (a + b + c + d) + 256 * (q + r + s + t) := by omega
theorem lin3 {a b c d p q r : Nat} (e1 : p = a + 256 * q) (e2 : q = b + 256 * r) (e3 : r = c + 256 * d) : p + q + r + d = (a + b + c + d) + 256 * (q + r + d) := by omega
theorem sum4 {a b c d : Nat} (h1 : a ≤ 8) (h2 : b ≤ 8) (h3 : c ≤ 8) (h4 : d ≤ 8) : a + b + c + d ≤ 32 := by omega
theorem sum3 {a b c : Nat} (h1 : a ≤ 526344) (h2 : b ≤ 2056) (h3 : c ≤ 8) : a + b + c ≤ 1000000 := by omega
theorem last {a0 a1 a2 a3 a4 a5 a6 a7 : Nat} (h0 : a0 ≤ 8) (h1 : a1 ≤ 8) (h2 : a2 ≤ 8) (h3 : a3 ≤ 8) (h4 : a4 ≤ 8) (h5 : a5 ≤ 8) (h6 : a6 ≤ 8) (h7 : a7 ≤ 8) {x y z t : Nat} (hx : x = a0 + 256 * (a1 + 256 * (a2 + 256 * (a3 + 256 * (a4 + 256 * (a5 + 256 * (a6 + 256 * a7))))))) (hy : y = (x + x / 256) % 18446744073709551616) (hz : z = (y + y / 65536) % 18446744073709551616) (ht : t = (z + z / 4294967296) % 18446744073709551616) :
    t % 128 = a0 + a1 + a2 + a3 + a4 + a5 + a6 + a7 := by
  obtain ⟨t6, e6⟩ : ∃ t, t = a6 + 256 * a7 := ⟨_, rfl⟩
  rw [← e6] at hx
  obtain ⟨t5, e5⟩ : ∃ t, t = a5 + 256 * t6 := ⟨_, rfl⟩
  rw [← e5] at hx
  obtain ⟨t4, e4⟩ : ∃ t, t = a4 + 256 * t5 := ⟨_, rfl⟩
  rw [← e4] at hx
  obtain ⟨t3, e3⟩ : ∃ t, t = a3 + 256 * t4 := ⟨_, rfl⟩
  rw [← e3] at hx
  obtain ⟨t2, e2⟩ : ∃ t, t = a2 + 256 * t3 := ⟨_, rfl⟩
  rw [← e2] at hx
  obtain ⟨t1, e1⟩ : ∃ t, t = a1 + 256 * t2 := ⟨_, rfl⟩
  rw [← e1] at hx
  have b6 : t6 ≤ 2056 := bnd e6 h6 h7
  have b5 : t5 ≤ 526344 := bnd e5 h5 b6
  have b4 : t4 ≤ 134744072 := bnd e4 h4 b5
  have b3 : t3 ≤ 34494482440 := bnd e3 h3 b4
  have b2 : t2 ≤ 8830587504648 := bnd e2 h2 b3
  have k2 := up_y h0 h1 b2 e1 hx hy
  clear hx hy
  have k4 := up_z h0 h1 h2 h3 b4 e1 e2 e3 k2 hz
  clear k2 hz
  rw [up_t (sum4 h0 h1 h2 h3) (sum4 h1 h2 h3 h4) (sum4 h2 h3 h4 h5) (sum4 h3 h4 h5 h6) (sum4 h4 h5 h6 h7) (sum3 b5 b6 h7) (lin4 e1 e2 e3 e4) (lin4 e2 e3 e4 e5) (lin4 e3 e4 e5 e6) (lin3 e4 e5 e6) k4 ht]
  simp only [Nat.add_assoc]
/-- The bytes of a word. -/
def bytes (x : Nat) : List Nat := [x % 256, x / 256 % 256, x / 65536 % 256, x / 16777216 % 256, x / 4294967296 % 256, x / 1099511627776 % 256, x / 281474976710656 % 256, x / 72057594037927936]
theorem of_bytes (x : Nat) : ofB (bytes x) = x := by simp only [bytes, ofB]; omega
theorem bytes_lt {x : Nat} (h : x < 18446744073709551616) : Bytes (bytes x) := by
  intro a ha
  simp only [bytes, List.mem_cons, List.not_mem_nil, or_false] at ha
  omega
theorem mask (m : Nat) (x : Nat) : ofB ((bytes x).map fun _ => m) = m + 256 * (m + 256 * (m + 256 * (m + 256 * (m + 256 * (m + 256 * (m + 256 * m)))))) := by simp [bytes, ofB]
/-- What the program reckons. -/
theorem ones {x x1 x2 x3 x4 x5 x6 : Nat} (h : x < 18446744073709551616) (h1 : x1 = (x / 2 &&& 6148914691236517205) + (x &&& 6148914691236517205)) (h2 : x2 = (x1 / 4 &&& 3689348814741910323) + (x1 &&& 3689348814741910323)) (h3 : x3 = (x2 / 16 + x2) &&& 1085102592571150095)
    (h4 : x4 = (x3 + x3 / 256) % 18446744073709551616) (h5 : x5 = (x4 + x4 / 65536) % 18446744073709551616) (h6 : x6 = (x5 + x5 / 4294967296) % 18446744073709551616) : x6 % 128 = pc 64 x := by
  have hb := bytes_lt h
  have e1 : x1 = ofB ((bytes x).map g1) := by
    have a1 := shr_bytes 1 85 (by omega) (by decide) (bytes x) hb
    have a2 := and_bytes 85 (by omega) (bytes x) hb
    have a3 := add_bytes (fun a => a / 2 ^ 1 &&& 85) (fun a => a &&& 85) (bytes x)
    rw [← a1, ← a2, mask, of_bytes] at a3
    rw [h1]
    exact a3
  have hb1 : Bytes ((bytes x).map g1) := fun a ha => by obtain ⟨c, hc, rfl⟩ := List.mem_map.1 ha; exact (g_at (hb c hc)).1
  have e2 : x2 = ofB ((bytes x).map fun a => g2 (g1 a)) := by
    have a1 := shr_bytes 2 51 (by omega) (by decide) _ hb1
    have a2 := and_bytes 51 (by omega) _ hb1
    have a3 := add_bytes (fun a => a / 2 ^ 2 &&& 51) (fun a => a &&& 51) ((bytes x).map g1)
    rw [← a1, ← a2, List.map_map, show ((fun _ => 51) ∘ g1 : Nat → Nat) = fun _ => 51 from rfl, mask, ← e1] at a3
    rw [h2]
    refine a3.trans ?_
    rw [List.map_map]; rfl
  have hn : Nibs ((bytes x).map fun a => g2 (g1 a)) := fun a ha => by
    obtain ⟨c, hc, rfl⟩ := List.mem_map.1 ha
    have := g_at (hb c hc)
    exact ⟨this.2.1, this.2.2.1, this.2.2.2.1⟩
  have e3 : x3 = ofB ((bytes x).map (pc 8)) := by
    have a1 := nib_bytes _ hn
    rw [List.map_map, show ((fun _ => 15) ∘ (fun a => g2 (g1 a)) : Nat → Nat) = fun _ => 15 from rfl, mask, ← e2, List.map_map] at a1
    rw [h3]
    refine a1.trans ?_
    congr 1
    exact List.map_congr_left (fun a ha => (g_at (hb a ha)).2.2.2.2.1)
  have hle : ∀ a ∈ bytes x, pc 8 a ≤ 8 := fun a ha => (g_at (hb a ha)).2.2.2.2.2
  have hp := pc_bytes (bytes x) hb
  rw [of_bytes] at hp
  simp only [bytes, List.map_cons, List.map_nil, ofB, List.length_cons, List.length_nil, List.sum_cons, List.sum_nil, Nat.mul_zero, Nat.add_zero] at e3 hp
  simp only [bytes, List.mem_cons, List.not_mem_nil, or_false, forall_eq_or_imp, forall_eq] at hle
  obtain ⟨k0, k1, k2, k3, k4, k5, k6, k7⟩ := hle
  have := last k0 k1 k2 k3 k4 k5 k6 k7 e3 h4 h5 h6
  rw [this]
  simp only [Nat.zero_add, Nat.reduceAdd, Nat.reduceMul] at hp
  rw [hp]
  simp only [Nat.add_assoc]
end Go.Proofs.YtdmlldhlfofegaaDoor.Pop
