/- Only so: the plain law. What is read off bytes is written as these. -/
import Derived.Test.YtpbkdjnogjmfcaaStrmLaw
namespace Go.Proofs.Ytpbkdjnogjmfcaa

/-- What P has read without an error stands ahead of what it has left. -/
def Bk {α : Type} (P : Tp → α × Tp) (E : α → List W8) : Prop := ∀ t, (P t).2.2 = 0 → t.2 = 0 ∧ t.1 = E (P t).1 ++ (P t).2.1
theorem err_of {α : Type} {P : Tp → α × Tp} (he : ∀ t, t.2 ≠ 0 → (P t).2 = t) {t : Tp} (h : (P t).2.2 = 0) : t.2 = 0 := by
  by_cases h0 : t.2 = 0
  · exact h0
  · rw [he t h0] at h; exact absurd h h0
theorem bytes_back (n : Nat) (t : Tp) (h : (tBytes n t).2.2 = 0) : t.2 = 0 ∧ n ≤ t.1.length ∧ tBytes n t = (t.1.take n, (t.1.drop n, 0)) := by
  have h0 := err_of (fun t ht => by rw [tBytes_err ht]) h
  obtain ⟨xs, c⟩ := t
  simp only at h0
  subst h0
  by_cases hn : n ≤ xs.length
  · exact ⟨rfl, hn, tBytes_yes hn⟩
  · rw [tBytes_no hn] at h; cases h
theorem bk_bytes (n : Nat) : Bk (tBytes n) (fun xs => xs) := fun t h => by
  obtain ⟨h0, hn, e⟩ := bytes_back n t h
  rw [e]
  exact ⟨h0, (List.take_append_drop n t.1).symm⟩
theorem bk_byte : Bk tByte (fun b => [b]) := fun t h => by
  obtain ⟨h0, hn, e⟩ := bytes_back 1 t h
  have e' : tByte t = ((t.1.take 1).getD 0 0, (t.1.drop 1, 0)) := by unfold tByte; rw [e]
  rw [e']
  refine ⟨h0, ?_⟩
  obtain ⟨xs, c⟩ := t
  cases xs with
  | nil => simp at hn
  | cons a xs => rfl
theorem bk_hash : Bk tHash (fun xs => xs) := fun t h => by
  have h' : (tBytes 32 t).2.2 = 0 := h
  obtain ⟨h0, hn, e⟩ := bytes_back 32 t h'
  have e' : tHash t = (t.1.take 32, (t.1.drop 32, 0)) := by
    unfold tHash; rw [e]
    show (if (t.1.take 32).length < 32 then _ else _, _) = _
    rw [if_neg (by rw [List.length_take]; omega)]
  rw [e']
  exact ⟨h0, (List.take_append_drop 32 t.1).symm⟩
theorem bk_short (m : Nat) : Bk (tShort m) leb := fun t h => by
  have h0 := err_of (P := tShort m) (fun t ht => by rw [tShort_err ht]) h
  obtain ⟨xs, c⟩ := t
  simp only at h0
  subst h0
  refine ⟨rfl, ?_⟩
  rcases takeN_or xs with ⟨n, k, e⟩ | ⟨c, hc, e⟩
  · by_cases hn : n ≤ m
    · rw [tShort_yes e hn]
      obtain ⟨_, h2, _⟩ := takeN_put e
      show xs = leb n ++ xs.drop k
      rw [← h2, List.take_append_drop]
    · rw [tShort_big e (by omega)] at h; cases h
  · rw [tShort_no e hc] at h; exact absurd h hc
theorem bk_name : Bk tName nameB := fun t h => by
  have h' : (tBytes (tShort 12 t).1 (tShort 12 t).2).2.2 = 0 := h
  obtain ⟨h0, hn, e⟩ := bytes_back _ _ h'
  obtain ⟨h1, h2⟩ := bk_short 12 t h0
  refine ⟨h1, ?_⟩
  have e' : tName t = ((tShort 12 t).2.1.take (tShort 12 t).1, ((tShort 12 t).2.1.drop (tShort 12 t).1, 0)) := e
  rw [e']
  show t.1 = leb ((tShort 12 t).2.1.take (tShort 12 t).1).length ++ (tShort 12 t).2.1.take (tShort 12 t).1 ++ (tShort 12 t).2.1.drop (tShort 12 t).1
  rw [List.length_take, Nat.min_eq_left hn, List.append_assoc, List.take_append_drop]
  exact h2
theorem tFail_back {is : Bool} {t : Tp} (h : (tFail is t).2 = 0) : is = false ∧ t.2 = 0 ∧ tFail is t = t := by
  unfold tFail at h ⊢
  split at h
  · cases h
  · rename_i hn
    rw [if_neg hn]
    refine ⟨?_, h, rfl⟩
    cases is with
    | false => rfl
    | true => exact absurd ⟨rfl, h⟩ hn
theorem ofInt_ub (b : W8) : BitVec.ofInt 8 (ub b) = b := by
  apply BitVec.eq_of_toNat_eq
  have := b.isLt
  rw [BitVec.toNat_ofInt]
  unfold ub
  omega
theorem bk_cell : Bk tCell cellB := fun t h => by
  have hy := bk_byte
  by_cases h67 : (tByte (tByte t).2).1 = 67
  · rw [tCell_C h67] at h ⊢
    obtain ⟨a0, hn, e⟩ := bytes_back 256 (tByte (tByte t).2).2 h
    obtain ⟨b0, b1⟩ := hy (tByte t).2 a0
    obtain ⟨c0, c1⟩ := hy t b0
    refine ⟨c0, ?_⟩
    rw [e]
    show t.1 = (BitVec.ofInt 8 (ub (tByte t).1) :: (if ((tByte (tByte t).2).2.1.take 256).length = 0 then 72 else 67) :: (tByte (tByte t).2).2.1.take 256) ++ (tByte (tByte t).2).2.1.drop 256
    rw [if_neg (by rw [List.length_take]; omega), ofInt_ub, List.cons_append, List.cons_append, List.take_append_drop]
    rw [h67] at b1
    rw [c1, b1]; rfl
  · by_cases h72 : (tByte (tByte t).2).1 = 72
    · rw [tCell_H h72] at h ⊢
      obtain ⟨b0, b1⟩ := hy (tByte t).2 h
      obtain ⟨c0, c1⟩ := hy t b0
      refine ⟨c0, ?_⟩
      show t.1 = (BitVec.ofInt 8 (ub (tByte t).1) :: 72 :: []) ++ (tByte (tByte t).2).2.1
      rw [h72] at b1
      rw [ofInt_ub, c1, b1]; rfl
    · rw [tCell_X h67 h72] at h
      have := (tFail_back h).1
      cases this
theorem bk_cells : ∀ (k : Nat) (acc : List (Int × List W8)) (t : Tp), (tCells k acc t).2.2 = 0 → t.2 = 0 ∧ ∃ cs, (tCells k acc t).1 = acc ++ cs ∧ cs.length = k ∧ t.1 = cellsB cs ++ (tCells k acc t).2.1
  | 0, acc, t, h => ⟨h, [], (List.append_nil _).symm, rfl, rfl⟩
  | k + 1, acc, t, h => by
    have h0 : t.2 = 0 := by
      by_cases h0 : t.2 = 0
      · exact h0
      · rw [tCells_err h0] at h; exact absurd h h0
    have e : tCells (k + 1) acc t = tCells k (acc ++ [(tCell t).1]) (tCell t).2 := if_pos h0
    rw [e] at h ⊢
    obtain ⟨h1, cs, h2, h3, h4⟩ := bk_cells k _ _ h
    obtain ⟨_, h5⟩ := bk_cell t h1
    refine ⟨h0, (tCell t).1 :: cs, by rw [h2]; simp, by simp [h3], ?_⟩
    show t.1 = cellB (tCell t).1 ++ cellsB cs ++ _
    rw [List.append_assoc, ← h4]; exact h5
theorem bk_head (t : Tp) (h : (tHead t).2.2 = 0) : t.2 = 0 ∧ t.1 = aheadS (tHead t).1 ++ (tHead t).2.1 ∧ (tHead t).1.base.length = 32 ∧ (tHead t).1.goal.length = 32 := by
  obtain ⟨m, hm⟩ : ∃ m, m = tByte t := ⟨_, rfl⟩
  obtain ⟨t0, ht0⟩ : ∃ t0, t0 = tFail (decide (m.1 ≠ 70) && decide (m.1 ≠ 73)) m.2 := ⟨_, rfl⟩
  obtain ⟨a, ha⟩ : ∃ a, a = tName t0 := ⟨_, rfl⟩
  obtain ⟨b, hb⟩ : ∃ b, b = tName a.2 := ⟨_, rfl⟩
  obtain ⟨c, hc⟩ : ∃ c, c = tName b.2 := ⟨_, rfl⟩
  obtain ⟨p, hp⟩ : ∃ p, p = tHash c.2 := ⟨_, rfl⟩
  obtain ⟨g, hg⟩ : ∃ g, g = tHash p.2 := ⟨_, rfl⟩
  obtain ⟨n, hn⟩ : ∃ n, n = tShort 16 g.2 := ⟨_, rfl⟩
  obtain ⟨cs, hcs⟩ : ∃ cs, cs = tCells n.1 [] n.2 := ⟨_, rfl⟩
  have e : tHead t = (⟨decide (m.1 = 73), a.1, b.1, c.1, p.1, g.1, cs.1⟩, cs.2) := by
    rw [hcs, hn, hg, hp, hc, hb, ha, ht0, hm]; rfl
  rw [e] at h ⊢
  obtain ⟨k0, cs', k1, k2, k3⟩ := bk_cells n.1 [] n.2 (by rw [← hcs]; exact h)
  obtain ⟨n0, n1⟩ := bk_short 16 g.2 (by rw [← hn]; exact k0)
  obtain ⟨g0, g1⟩ := bk_hash p.2 (by rw [← hg]; exact n0)
  obtain ⟨p0, p1⟩ := bk_hash c.2 (by rw [← hp]; exact g0)
  obtain ⟨c0, c1⟩ := bk_name b.2 (by rw [← hc]; exact p0)
  obtain ⟨b0, b1⟩ := bk_name a.2 (by rw [← hb]; exact c0)
  obtain ⟨a0, a1⟩ := bk_name t0 (by rw [← ha]; exact b0)
  obtain ⟨f0, f1, f2⟩ := tFail_back (is := decide (m.1 ≠ 70) && decide (m.1 ≠ 73)) (t := m.2) (by rw [← ht0]; exact a0)
  obtain ⟨m0, m1⟩ := bk_byte t (by rw [← hm]; exact f1)
  rw [← hcs] at k1 k3
  rw [← hn] at n1
  rw [← hg] at g1
  rw [← hp] at p1
  rw [← hc] at c1
  rw [← hb] at b1
  rw [← ha] at a1
  rw [← hm] at m1
  rw [← ht0] at f2
  rw [List.nil_append] at k1
  refine ⟨m0, ?_, ?_, ?_⟩
  · have hmark : m.1 = if (decide (m.1 = 73)) = true then (73 : W8) else 70 := by
      by_cases h73 : m.1 = 73
      · rw [decide_eq_true h73, if_pos rfl]; exact h73
      · rw [decide_eq_false h73, if_neg (by decide)]
        by_cases h70 : m.1 = 70
        · exact h70
        · rw [decide_eq_true h70, decide_eq_true h73] at f0; cases f0
    have key : t.1 = [m.1] ++ (nameB a.1 ++ (nameB b.1 ++ (nameB c.1 ++ (p.1 ++ (g.1 ++ (leb n.1 ++ (cellsB cs' ++ cs.2.1))))))) := by
      rw [m1, ← f2, a1, b1, c1, p1, g1, n1, k3]
    rw [key]
    show _ = ((if decide (m.1 = 73) = true then 73 else 70) :: (nameB a.1 ++ (nameB b.1 ++ (nameB c.1 ++ (p.1 ++ (g.1 ++ leb cs.1.length))))) ++ cellsB cs.1) ++ cs.2.1
    rw [← hmark, k1, k2]
    simp [List.append_assoc]
  · rw [hp]; exact tHash_len _
  · rw [hg]; exact tHash_len _
theorem enc_dec {xs : List W8} (h : (decS xs).1 = 0) : encS (decS xs).2 = xs ∧ mayS (decS xs).2 ∧ (decS xs).2.base.length = 32 ∧ (decS xs).2.goal.length = 32 := by
  unfold decS at h ⊢
  by_cases h5 : 5000 < xs.length
  · rw [if_pos h5] at h; cases h
  · rw [if_neg h5] at h ⊢
    dsimp only at h ⊢
    obtain ⟨r, hr⟩ : ∃ r, r = tHead (xs, 0) := ⟨_, rfl⟩
    obtain ⟨q, hq⟩ : ∃ q, q = tHash r.2 := ⟨_, rfl⟩
    rw [← hr, ← hq] at h ⊢
    by_cases h9 : (tFail (decide (0 < q.2.1.length)) q.2).2 = 0
    · rw [if_pos h9] at h ⊢
      by_cases hs : shaL (xs.take (xs.length - r.2.1.length)) = q.1
      · rw [if_pos hs] at h ⊢
        by_cases hm : mayS r.1
        · rw [if_pos hm]
          obtain ⟨f0, f1, _⟩ := tFail_back h9
          obtain ⟨q0, q1⟩ := bk_hash r.2 (by rw [← hq]; exact f1)
          obtain ⟨_, r1, r2, r3⟩ := bk_head (xs, 0) (by rw [← hr]; exact q0)
          rw [← hr] at r1 r2 r3
          rw [← hq] at q1
          have hnil : q.2.1 = [] := by
            have := of_decide_eq_false f0
            exact List.eq_nil_of_length_eq_zero (by omega)
          rw [hnil, List.append_nil] at q1
          have htk : xs.take (xs.length - r.2.1.length) = aheadS r.1 := by
            have e : xs = aheadS r.1 ++ r.2.1 := r1
            rw [e, List.length_append, Nat.add_sub_cancel, List.take_left]
          rw [htk] at hs
          refine ⟨?_, hm, r2, r3⟩
          show aheadS r.1 ++ shaL (aheadS r.1) = xs
          have q2 : r.2.1 = q.1 := q1
          rw [hs, ← q2]; exact r1.symm
        · rw [if_neg hm] at h; cases h
      · rw [if_neg hs] at h; cases h
    · rw [if_neg h9] at h; exact absurd h h9
theorem dec_zero {xs : List W8} (h : (decS xs).1 ≠ 0) : (decS xs).2 = Strm.zero := by
  unfold decS at h ⊢
  dsimp only at h ⊢
  split
  · rfl
  · rename_i h5
    rw [if_neg h5] at h
    split
    · rename_i h9
      rw [if_pos h9] at h
      split
      · rename_i hs
        rw [if_pos hs] at h
        split
        · rename_i hm; rw [if_pos hm] at h; exact absurd rfl h
        · rfl
      · rfl
    · rfl
/-- A stream that was read is small. -/
theorem dec_small (xs : List W8) : (decS xs).2.base.length = 32 ∧ (decS xs).2.goal.length = 32 ∧ (decS xs).2.cells.length ≤ 16 ∧ ∀ c ∈ (decS xs).2.cells, c.2.length ≤ 256 := by
  by_cases h : (decS xs).1 = 0
  · obtain ⟨_, hm, hb, hg⟩ := enc_dec h
    obtain ⟨_, _, _, h4, h5, _⟩ := may_sizes hm hb hg
    exact ⟨hb, hg, h4, fun c hc => by have := (h5 c hc).2.2; omega⟩
  · rw [dec_zero h]
    exact ⟨rfl, rfl, Nat.zero_le _, fun c hc => by cases hc⟩
end Go.Proofs.Ytpbkdjnogjmfcaa
