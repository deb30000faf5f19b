/- The calendar in plain numbers: months' days, years' first days, and that a day has one date. -/
namespace Go.Proofs.Ythlggjchgngefaa.Cal

def leap (y : Int) : Bool := decide (y % 400 = 0) || (decide (y % 4 = 0) && !decide (y % 100 = 0))
def feb (y : Int) : Int := if leap y then 29 else 28
/-- How many days a month has. -/
def dim (y m : Int) : Int := if y < 2000 ∨ 2199 < y then 0 else if m = 2 then feb y else if m = 4 ∨ m = 6 ∨ m = 9 ∨ m = 11 then 30 else if 1 ≤ m ∧ m ≤ 12 then 31 else 0
/-- The days of the first n months of a year. -/
def md (y : Int) : Nat → Int
  | 0 => 0
  | n + 1 => md y n + dim y (n + 1)
/-- The first day of the year 2000 + n. -/
def yd : Nat → Int
  | 0 => 0
  | n + 1 => yd n + md (2000 + n) 12
theorem feb_bd (y : Int) : 28 ≤ feb y ∧ feb y ≤ 29 := by unfold feb; split <;> omega
theorem dim_out {y m : Int} (h : y < 2000 ∨ 2199 < y) : dim y m = 0 := by unfold dim; rw [if_pos h]
theorem dim_mout {y m : Int} (h : m < 1 ∨ 12 < m) : dim y m = 0 := by
  unfold dim
  split
  · rfl
  · rw [if_neg (by omega), if_neg (by omega), if_neg (by omega)]
theorem dim_bd {y m : Int} (hy : 2000 ≤ y) (hy' : y ≤ 2199) (hm : 1 ≤ m) (hm' : m ≤ 12) : 28 ≤ dim y m ∧ dim y m ≤ 31 := by
  have := feb_bd y
  unfold dim
  rw [if_neg (by omega)]
  split
  · omega
  · split
    · omega
    · rw [if_pos ⟨hm, hm'⟩]; omega
theorem dim_range (y m : Int) : 0 ≤ dim y m ∧ dim y m ≤ 31 := by
  by_cases h1 : y < 2000 ∨ 2199 < y
  · rw [dim_out h1]; omega
  · by_cases h2 : m < 1 ∨ 12 < m
    · rw [dim_mout h2]; omega
    · have := @dim_bd y m (by omega) (by omega) (by omega) (by omega); omega
theorem dim_in {y m : Int} (h : 0 < dim y m) : 2000 ≤ y ∧ y ≤ 2199 ∧ 1 ≤ m ∧ m ≤ 12 := by
  by_cases h1 : y < 2000 ∨ 2199 < y
  · rw [dim_out h1] at h; omega
  · by_cases h2 : m < 1 ∨ 12 < m
    · rw [dim_mout h2] at h; omega
    · omega
theorem md_mono (y : Int) {a b : Nat} (h : a ≤ b) : md y a ≤ md y b := by
  induction b with
  | zero => have : a = 0 := by omega
            subst this; exact Int.le_refl _
  | succ b ih =>
    by_cases e : a = b + 1
    · subst e; exact Int.le_refl _
    · have h1 := ih (by omega)
      have h2 := dim_range y (b + 1)
      show md y a ≤ md y b + dim y (b + 1)
      omega
theorem md_bd (y : Int) (n : Nat) : 0 ≤ md y n ∧ md y n ≤ 31 * n := by
  induction n with
  | zero => exact ⟨Int.le_refl _, by simp [md]⟩
  | succ n ih =>
    have h2 := dim_range y (n + 1)
    simp only [md]; omega
theorem md_12 {y : Int} (hy : 2000 ≤ y) (hy' : y ≤ 2199) : md y 12 = 337 + feb y := by
  simp only [md, dim]
  rw [if_neg (by omega)]
  rw [if_neg (by omega)]
  simp
  omega
theorem yd_mono {a b : Nat} (h : a ≤ b) : yd a ≤ yd b := by
  induction b with
  | zero => have : a = 0 := by omega
            subst this; exact Int.le_refl _
  | succ b ih =>
    by_cases e : a = b + 1
    · subst e; exact Int.le_refl _
    · have h1 := ih (by omega)
      have h2 := md_bd (2000 + b) 12
      show yd a ≤ yd b + md (2000 + b) 12
      omega
theorem yd_bd (n : Nat) : 0 ≤ yd n ∧ yd n ≤ 372 * n := by
  induction n with
  | zero => exact ⟨Int.le_refl _, by simp [yd]⟩
  | succ n ih =>
    have h2 := md_bd (2000 + n) 12
    simp only [yd]; omega
def up (y : Int) : Int := y / 4 - y / 100 + y / 400
theorem yd_all : ((List.range 201).all fun n => decide (yd n = (n : Int) * 365 + (up (1999 + n) - up 1999) ∧ yd n ≤ 366 * n)) = true := by decide +kernel
theorem yd_eq {n : Nat} (h : n ≤ 200) : yd n = (n : Int) * 365 + (up (1999 + n) - up 1999) := by
  have := List.all_eq_true.1 yd_all n (List.mem_range.2 (by omega))
  exact (of_decide_eq_true this).1
theorem yd_le {n : Nat} (h : n ≤ 200) : yd n ≤ 366 * n := by
  have := List.all_eq_true.1 yd_all n (List.mem_range.2 (by omega))
  exact (of_decide_eq_true this).2
theorem yd_200 : yd 200 = 73049 := by rw [yd_eq (by omega)]; decide

/-- A date's day. -/
def dn (y m d : Int) : Int := yd (y - 2000).toNat + md y (m - 1).toNat + d - 1
def valid (y m d : Int) : Prop := 1 ≤ d ∧ d ≤ dim y m
theorem valid.in_ {y m d : Int} (h : valid y m d) : 2000 ≤ y ∧ y ≤ 2199 ∧ 1 ≤ m ∧ m ≤ 12 := dim_in (by have := h.1; have := h.2; omega)
/-- A date's day lies in its month, and its month in its year. -/
theorem dn_in {y m d : Int} (h : valid y m d) : yd (y - 2000).toNat + md y (m - 1).toNat ≤ dn y m d ∧ dn y m d < yd (y - 2000).toNat + md y m.toNat ∧ md y m.toNat ≤ md y 12 := by
  obtain ⟨h1, h2, h3, h4⟩ := h.in_
  have e : md y m.toNat = md y (m - 1).toNat + dim y m := by
    obtain ⟨k, rfl⟩ : ∃ k : Nat, m = k + 1 := ⟨(m - 1).toNat, by omega⟩
    rw [show ((k : Int) + 1).toNat = k + 1 by omega, show ((k : Int) + 1 - 1).toNat = k by omega]; rfl
  have hm := md_mono y (a := m.toNat) (b := 12) (by omega)
  have h5 := h.1
  have h6 := h.2
  unfold dn
  exact ⟨by omega, by omega, hm⟩
theorem dn_year {y m d : Int} (h : valid y m d) : yd (y - 2000).toNat ≤ dn y m d ∧ dn y m d < yd ((y - 2000).toNat + 1) := by
  obtain ⟨h1, h2, h3⟩ := dn_in h
  obtain ⟨g1, g2, _⟩ := h.in_
  have h4 := (md_bd y (m - 1).toNat).1
  have e : yd ((y - 2000).toNat + 1) = yd (y - 2000).toNat + md y 12 := by
    rw [yd, show (2000 : Int) + ((y - 2000).toNat : Nat) = y by omega]
  rw [e]; omega
theorem dn_max {y m d : Int} (h : valid y m d) : 0 ≤ dn y m d ∧ dn y m d < 73049 := by
  obtain ⟨h1, h2⟩ := dn_year h
  obtain ⟨g1, g2, _⟩ := h.in_
  have h3 := (yd_bd (y - 2000).toNat).1
  have h4 := yd_mono (a := (y - 2000).toNat + 1) (b := 200) (by omega)
  rw [yd_200] at h4; omega
/-- Dates go as their days. -/
theorem dn_lt {y m d y' m' d' : Int} (h : valid y m d) (h' : valid y' m' d') : dn y m d < dn y' m' d' ↔ y < y' ∨ y = y' ∧ (m < m' ∨ m = m' ∧ d < d') := by
  have key : ∀ {y m d y' m' d' : Int}, valid y m d → valid y' m' d' → (y < y' ∨ y = y' ∧ (m < m' ∨ m = m' ∧ d < d')) → dn y m d < dn y' m' d' := by
    intro y m d y' m' d' h h' hc
    obtain ⟨a1, a2⟩ := dn_year h
    obtain ⟨b1, b2⟩ := dn_year h'
    obtain ⟨c1, c2, c3⟩ := dn_in h
    obtain ⟨d1, d2, d3⟩ := dn_in h'
    obtain ⟨g1, g2, g3, g4⟩ := h.in_
    obtain ⟨g1', g2', g3', g4'⟩ := h'.in_
    rcases hc with hc | ⟨rfl, hc | ⟨rfl, hc⟩⟩
    · have := yd_mono (a := (y - 2000).toNat + 1) (b := (y' - 2000).toNat) (by omega)
      omega
    · have := md_mono y (a := m.toNat) (b := (m' - 1).toNat) (by omega)
      omega
    · unfold dn; omega
  refine ⟨fun hl => ?_, key h h'⟩
  have hr := fun hc => key h' h hc
  by_cases e1 : y < y'
  · exact Or.inl e1
  · by_cases e2 : y = y'
    · refine Or.inr ⟨e2, ?_⟩
      by_cases e3 : m < m'
      · exact Or.inl e3
      · by_cases e4 : m = m'
        · refine Or.inr ⟨e4, ?_⟩
          subst e2 e4
          unfold dn at hl; omega
        · have := hr (Or.inr ⟨e2.symm, Or.inl (by omega)⟩); omega
    · have := hr (Or.inl (by omega)); omega
theorem dn_inj {y m d y' m' d' : Int} (h : valid y m d) (h' : valid y' m' d') (e : dn y m d = dn y' m' d') : y = y' ∧ m = m' ∧ d = d' := by
  have h1 := (dn_lt h h').2
  have h2 := (dn_lt h' h).2
  by_cases e1 : y = y'
  · by_cases e2 : m = m'
    · subst e1 e2
      refine ⟨rfl, rfl, ?_⟩
      unfold dn at e; omega
    · by_cases e3 : m < m'
      · have := h1 (Or.inr ⟨e1, Or.inl e3⟩); omega
      · have := h2 (Or.inr ⟨e1.symm, Or.inl (by omega)⟩); omega
  · by_cases e3 : y < y'
    · have := h1 (Or.inl e3); omega
    · have := h2 (Or.inl (by omega)); omega
/-- The seconds of a date and a time of it. -/
def tn (y m d h mi s : Int) : Int := dn y m d * 86400 + h * 3600 + mi * 60 + s
def vtime (h mi s : Int) : Prop := 0 ≤ h ∧ h < 24 ∧ 0 ≤ mi ∧ mi < 60 ∧ 0 ≤ s ∧ s < 60
end Go.Proofs.Ythlggjchgngefaa.Cal
