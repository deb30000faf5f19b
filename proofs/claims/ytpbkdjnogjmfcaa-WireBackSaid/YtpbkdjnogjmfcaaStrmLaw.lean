/- Streams there and back: the plain law. -/
import Derived.Test.YtpbkdjnogjmfcaaEnc
namespace Go.Proofs.Ytpbkdjnogjmfcaa

/-- P reads v off its bytes; off a beginning of these it says that they are short; an error stays. -/
structure Rds {α : Type} (P : Tp → α × Tp) (enc : List W8) (v : α) : Prop where
  ok : ∀ rest, P (enc ++ rest, 0) = (v, (rest, 0))
  cut : ∀ p q, enc = p ++ q → q ≠ [] → (P (p, 0)).2.2 = 2
  err : ∀ t, t.2 ≠ 0 → (P t).2 = t
theorem Rds.bind {α β : Type} {P : Tp → α × Tp} {Q : α → Tp → β × Tp} {e1 e2 : List W8} {v1 : α} {v2 : β} (hP : Rds P e1 v1) (hQ : Rds (Q v1) e2 v2) (he : ∀ a t, t.2 ≠ 0 → (Q a t).2 = t) : Rds (fun t => Q (P t).1 (P t).2) (e1 ++ e2) v2 := by
  refine ⟨fun rest => ?_, fun p q h hq => ?_, fun t ht => ?_⟩
  · show Q (P (e1 ++ e2 ++ rest, 0)).1 (P (e1 ++ e2 ++ rest, 0)).2 = _
    rw [List.append_assoc, hP.ok]; exact hQ.ok rest
  · show (Q (P (p, 0)).1 (P (p, 0)).2).2.2 = 2
    have first : ∀ a, p = e1 ++ a → e2 = a ++ q → (Q (P (p, 0)).1 (P (p, 0)).2).2.2 = 2 := fun a h1 h2 => by
      rw [h1, hP.ok]; exact hQ.cut a q h2 hq
    rcases List.append_eq_append_iff.1 h with ⟨a, h1, h2⟩ | ⟨c, h1, h2⟩
    · exact first a h1 h2
    · by_cases hc : c = []
      · subst hc
        exact first [] (by simpa using h1.symm) (by simpa using h2.symm)
      · have := hP.cut p c h1 hc
        rw [he _ _ (by rw [this]; decide)]; exact this
  · show (Q (P t).1 (P t).2).2 = t
    have h1 := hP.err t ht
    rw [h1]; exact he _ _ ht
theorem rds_bytes {n : Nat} {xs : List W8} (h : xs.length = n) : Rds (tBytes n) xs xs := by
  refine ⟨fun rest => ?_, fun p q e hq => ?_, fun t ht => by rw [tBytes_err ht]⟩
  · rw [tBytes_yes (by rw [List.length_append]; omega)]
    subst h
    rw [List.take_left, List.drop_left]
  · have : ¬ n ≤ p.length := by
      have h2 := congrArg List.length e
      rw [List.length_append] at h2
      have := List.length_pos_iff.2 hq
      omega
    rw [tBytes_no this]
theorem rds_byte (b : W8) : Rds tByte [b] b := by
  have h := rds_bytes (xs := [b]) (n := 1) rfl
  refine ⟨fun rest => ?_, fun p q e hq => h.cut p q e hq, fun t ht => h.err t ht⟩
  unfold tByte; rw [h.ok]; rfl
theorem rds_hash {xs : List W8} (hl : xs.length = 32) : Rds tHash xs xs := by
  have h := rds_bytes (xs := xs) hl
  refine ⟨fun rest => ?_, fun p q e hq => h.cut p q e hq, fun t ht => h.err t ht⟩
  unfold tHash; rw [h.ok]
  show (if xs.length < 32 then _ else _, _) = _
  rw [if_neg (by omega)]
theorem rds_short {m n : Nat} (hn : n ≤ m) (hm : n < 128) : Rds (tShort m) (leb n) n := by
  have hleb : leb n = [BitVec.ofNat 8 n] := lebF_small hm
  refine ⟨fun rest => ?_, fun p q e hq => ?_, fun t ht => by rw [tShort_err ht]⟩
  · rw [tShort_yes (takeN_small hm rest) hn, hleb]; rfl
  · have hp : p = [] := by
      rw [hleb] at e
      cases p with
      | nil => rfl
      | cons a p =>
        have h2 := congrArg List.length e
        rw [List.length_append] at h2
        simp only [List.length_cons, List.length_nil] at h2
        have := List.length_pos_iff.2 hq
        omega
    subst hp
    rw [tShort_no takeN_nil (by decide)]
theorem rds_name {xs : List W8} (h : xs.length ≤ 12) : Rds tName (nameB xs) xs :=
  (rds_short h (by omega)).bind (Q := tBytes) (rds_bytes rfl) (fun _ t ht => by rw [tBytes_err ht])
theorem rds_cell {c : Int × List W8} (h : cellOk c) : Rds tCell (cellB c) c := by
  obtain ⟨at', B⟩ := c
  obtain ⟨h0, h16, hl⟩ := h
  simp only at h0 h16 hl
  have hx : (((BitVec.ofInt 8 at' : W8).toNat : Nat) : Int) = at' := by rw [BitVec.toNat_ofInt]; omega
  have e : cellB (at', B) = [BitVec.ofInt 8 at'] ++ ([if B.length = 0 then 72 else 67] ++ B) := rfl
  rw [e]
  let R : W8 → W8 → Tp → (Int × List W8) × Tp := fun a m t => if m = 67 then ((((a.toNat : Nat) : Int), (tBytes 256 t).1), (tBytes 256 t).2) else if m = 72 then ((((a.toNat : Nat) : Int), []), t) else ((((a.toNat : Nat) : Int), []), tFail true t)
  have hRe : ∀ a m t, t.2 ≠ 0 → (R a m t).2 = t := fun a m t ht => by
    show (if m = 67 then _ else if m = 72 then _ else _ : (Int × List W8) × Tp).2 = t
    split
    · rw [tBytes_err ht]
    · split
      · rfl
      · rw [tFail_err ht]
  have hR : Rds (R (BitVec.ofInt 8 at') (if B.length = 0 then 72 else 67)) B (at', B) := by
    by_cases hB : B.length = 0
    · have hB' : B = [] := List.eq_nil_of_length_eq_zero hB
      subst hB'
      rw [if_pos hB]
      refine ⟨fun rest => ?_, fun p q e hq => ?_, fun t ht => hRe _ _ t ht⟩
      · show (if (72 : W8) = 67 then _ else if (72 : W8) = 72 then _ else _) = _
        rw [if_neg (by decide), if_pos rfl, hx]; rfl
      · simp at e; exact absurd e.2 hq
    · have h256 : B.length = 256 := by omega
      rw [if_neg hB]
      have hb := rds_bytes h256
      refine ⟨fun rest => ?_, fun p q e hq => ?_, fun t ht => hRe _ _ t ht⟩
      · show (if (67 : W8) = 67 then _ else _) = _
        rw [if_pos rfl, hb.ok, hx]
      · show (if (67 : W8) = 67 then _ else _ : (Int × List W8) × Tp).2.2 = 2
        rw [if_pos rfl]; exact hb.cut p q e hq
  exact (rds_byte _).bind (Q := fun a t => R a (tByte t).1 (tByte t).2) ((rds_byte _).bind (Q := R (BitVec.ofInt 8 at')) hR (fun m t ht => hRe _ m t ht)) (fun a t ht => by
    have h1 : (tByte t).2 = t := by rw [tByte_err ht]
    show (R a (tByte t).1 (tByte t).2).2 = t
    rw [h1]; exact hRe _ _ t ht)
theorem rds_cells : ∀ (cs : List (Int × List W8)), (∀ c ∈ cs, cellOk c) → ∀ (acc : List (Int × List W8)), Rds (tCells cs.length acc) (cellsB cs) (acc ++ cs)
  | [], _, acc => ⟨fun rest => by rw [List.append_nil]; rfl, fun p q e hq => by simp [cellsB] at e; exact absurd e.2 hq, fun t _ => rfl⟩
  | c :: cs, h, acc => by
    have hc := rds_cell (h c List.mem_cons_self)
    have ih := rds_cells cs (fun x hx => h x (List.mem_cons_of_mem _ hx)) (acc ++ [c])
    have hb := hc.bind (Q := fun x t => tCells cs.length (acc ++ [x]) t) ih (fun x t ht => by rw [tCells_err ht])
    have e : ∀ t : Tp, t.2 = 0 → tCells (c :: cs).length acc t = tCells cs.length (acc ++ [(tCell t).1]) (tCell t).2 := fun t ht => if_pos ht
    refine ⟨fun rest => ?_, fun p q h1 hq => ?_, fun t ht => by rw [tCells_err ht]⟩
    · rw [e _ rfl]
      have h3 := hb.ok rest
      have e2 : acc ++ [c] ++ cs = acc ++ c :: cs := by simp
      rw [e2] at h3
      exact h3
    · rw [e _ rfl]; exact hb.cut p q h1 hq
/-- A stream's sizes. -/
theorem may_sizes {s : Strm} (h : mayS s) (_ : s.base.length = 32) (_ : s.goal.length = 32) : s.set.length ≤ 12 ∧ s.frm.length ≤ 12 ∧ s.til.length ≤ 12 ∧ s.cells.length ≤ 16 ∧ (∀ c ∈ s.cells, cellOk c) ∧ (cellsB s.cells).length ≤ 258 * s.cells.length := by
  obtain ⟨hc, hset, htil, hfrm⟩ := h
  have nm : ∀ xs, nameOk xs → xs.length ≤ 12 := fun xs hx => by have := hx.2.2; rw [str_size] at this; omega
  have inc : ∀ i, i < s.cells.length → (i : Int) ≤ (cellAt s.cells i).1 := by
    intro i
    induction i with
    | zero => intro hi; have := (hc 0 hi).1.1; simpa using this
    | succ i ih =>
      intro hi
      have h1 := ih (by omega)
      have h2 := (hc (i + 1) hi).2 (by omega)
      rw [show i + 1 - 1 = i by omega] at h2
      omega
  have hall : ∀ c ∈ s.cells, cellOk c := fun c hm => by
    obtain ⟨i, hi, e⟩ := List.mem_iff_getElem.1 hm
    have := (hc i hi).1
    unfold cellAt at this
    rw [List.getD_eq_getElem?_getD, List.getElem?_eq_getElem hi] at this
    rw [← e]; exact this
  refine ⟨nm _ hset, ?_, nm _ htil, ?_, hall, ?_⟩
  · split at hfrm
    · exact nm _ hfrm
    · rw [hfrm.1]; exact Nat.zero_le _
  · by_cases h0 : s.cells.length ≤ 16
    · exact h0
    · have h1 := inc 16 (by omega)
      have h2 := (hc 16 (by omega)).1.2.1
      omega
  · generalize s.cells = cs at hall
    induction cs with
    | nil => simp [cellsB]
    | cons c cs ih =>
      have h1 := ih (fun x hx => hall x (List.mem_cons_of_mem _ hx))
      have h2 := (hall c List.mem_cons_self).2.2
      show (cellB c ++ cellsB cs).length ≤ _
      rw [List.length_append]
      simp [cellB] at h1 ⊢
      omega
theorem encS_small {s : Strm} (h : mayS s) (hb : s.base.length = 32) (hg : s.goal.length = 32) : (encS s).length ≤ 4900 ∧ 33 ≤ (encS s).length := by
  obtain ⟨h1, h2, h3, h4, _, h6⟩ := may_sizes h hb hg
  have l : ∀ n, n ≤ 16 → (leb n).length = 1 := fun n hn => by unfold leb; rw [lebF_small (by omega)]; rfl
  unfold encS aheadS headB nameB
  simp only [List.length_append, List.length_cons, shaL_length, l _ (Nat.le_trans h1 (by decide)), l _ (Nat.le_trans h2 (by decide)), l _ (Nat.le_trans h3 (by decide)), l _ h4, hb, hg]
  omega
theorem rds_head {s : Strm} (h : mayS s) (hb : s.base.length = 32) (hg : s.goal.length = 32) : Rds tHead (aheadS s) s := by
  obtain ⟨h1, h2, h3, h4, h5, _⟩ := may_sizes h hb hg
  have hm : Rds (fun t => ((tByte t).1, tFail (decide ((tByte t).1 ≠ 70) && decide ((tByte t).1 ≠ 73)) (tByte t).2)) [markB s] (markB s) := by
    have hy := rds_byte (markB s)
    have hno : (decide (markB s ≠ 70) && decide (markB s ≠ 73)) = false := by unfold markB; split <;> decide
    refine ⟨fun rest => ?_, fun p q e hq => ?_, fun t ht => ?_⟩
    · show ((tByte ([markB s] ++ rest, 0)).1, tFail (decide ((tByte ([markB s] ++ rest, 0)).1 ≠ 70) && decide ((tByte ([markB s] ++ rest, 0)).1 ≠ 73)) (tByte ([markB s] ++ rest, 0)).2) = _
      rw [hy.ok]
      show (markB s, tFail (decide (markB s ≠ 70) && decide (markB s ≠ 73)) (rest, 0)) = _
      rw [hno]; rfl
    · have := hy.cut p q e hq
      show (tFail _ (tByte (p, 0)).2).2 = 2
      rw [tFail_err (by rw [this]; decide)]; exact this
    · show tFail _ (tByte t).2 = t
      rw [hy.err t ht, tFail_err ht]
  have fin : ∀ (m : W8) (a b c p g : List W8) (cs : List (Int × List W8)), Rds (fun t : Tp => ((⟨decide (m = 73), a, b, c, p, g, cs⟩ : Strm), t)) [] ⟨decide (m = 73), a, b, c, p, g, cs⟩ := fun m a b c p g cs =>
    ⟨fun rest => rfl, fun p q e hq => by simp at e; exact absurd e.2 hq, fun t _ => rfl⟩
  have key := hm.bind (Q := fun m t => (fun a t => (fun b t => (fun c t => (fun p t => (fun g t => (fun n t => (fun cs t => ((⟨decide (m = 73), a, b, c, p, g, cs⟩ : Strm), t)) (tCells n [] t).1 (tCells n [] t).2) (tShort 16 t).1 (tShort 16 t).2) (tHash t).1 (tHash t).2) (tHash t).1 (tHash t).2) (tName t).1 (tName t).2) (tName t).1 (tName t).2) (tName t).1 (tName t).2)
    ((rds_name h1).bind (Q := fun a t => (fun b t => (fun c t => (fun p t => (fun g t => (fun n t => (fun cs t => ((⟨decide (markB s = 73), a, b, c, p, g, cs⟩ : Strm), t)) (tCells n [] t).1 (tCells n [] t).2) (tShort 16 t).1 (tShort 16 t).2) (tHash t).1 (tHash t).2) (tHash t).1 (tHash t).2) (tName t).1 (tName t).2) (tName t).1 (tName t).2)
    ((rds_name h2).bind (Q := fun b t => (fun c t => (fun p t => (fun g t => (fun n t => (fun cs t => ((⟨decide (markB s = 73), s.set, b, c, p, g, cs⟩ : Strm), t)) (tCells n [] t).1 (tCells n [] t).2) (tShort 16 t).1 (tShort 16 t).2) (tHash t).1 (tHash t).2) (tHash t).1 (tHash t).2) (tName t).1 (tName t).2)
    ((rds_name h3).bind (Q := fun c t => (fun p t => (fun g t => (fun n t => (fun cs t => ((⟨decide (markB s = 73), s.set, s.frm, c, p, g, cs⟩ : Strm), t)) (tCells n [] t).1 (tCells n [] t).2) (tShort 16 t).1 (tShort 16 t).2) (tHash t).1 (tHash t).2) (tHash t).1 (tHash t).2)
    ((rds_hash hb).bind (Q := fun p t => (fun g t => (fun n t => (fun cs t => ((⟨decide (markB s = 73), s.set, s.frm, s.til, p, g, cs⟩ : Strm), t)) (tCells n [] t).1 (tCells n [] t).2) (tShort 16 t).1 (tShort 16 t).2) (tHash t).1 (tHash t).2)
    ((rds_hash hg).bind (Q := fun g t => (fun n t => (fun cs t => ((⟨decide (markB s = 73), s.set, s.frm, s.til, s.base, g, cs⟩ : Strm), t)) (tCells n [] t).1 (tCells n [] t).2) (tShort 16 t).1 (tShort 16 t).2)
    ((rds_short h4 (by omega)).bind (Q := fun n t => (fun cs t => ((⟨decide (markB s = 73), s.set, s.frm, s.til, s.base, s.goal, cs⟩ : Strm), t)) (tCells n [] t).1 (tCells n [] t).2)
    ((rds_cells s.cells h5 []).bind (Q := fun cs t => ((⟨decide (markB s = 73), s.set, s.frm, s.til, s.base, s.goal, cs⟩ : Strm), t)) (fin _ _ _ _ _ _ _) (fun _ t _ => rfl))
    (fun n t ht => by simp only [tCells_err ht])) (fun g t ht => by simp only [tShort_err ht, tCells_err ht])) (fun p t ht => by simp only [tHash_err ht, tShort_err ht, tCells_err ht])) (fun c t ht => by simp only [tHash_err ht, tShort_err ht, tCells_err ht])) (fun b t ht => by simp only [tName_err ht, tHash_err ht, tShort_err ht, tCells_err ht])) (fun a t ht => by simp only [tName_err ht, tHash_err ht, tShort_err ht, tCells_err ht])) (fun m t ht => by simp only [tName_err ht, tHash_err ht, tShort_err ht, tCells_err ht])
  have hs : (⟨decide (markB s = 73), s.set, s.frm, s.til, s.base, s.goal, [] ++ s.cells⟩ : Strm) = s := by
    have : decide (markB s = 73) = s.inc := by unfold markB; cases s.inc <;> decide
    rw [this]; rfl
  rw [hs] at key
  have he : [markB s] ++ (nameB s.set ++ (nameB s.frm ++ (nameB s.til ++ (s.base ++ (s.goal ++ (leb s.cells.length ++ (cellsB s.cells ++ []))))))) = aheadS s := by
    unfold aheadS headB markB
    simp [List.append_assoc]
  rw [he] at key
  exact key
theorem rds_all {s : Strm} (h : mayS s) (hb : s.base.length = 32) (hg : s.goal.length = 32) (hs : List W8) (hl : hs.length = 32) : Rds (fun t => ((tHead t).1, tHash (tHead t).2).2) (aheadS s ++ hs) hs :=
  (rds_head h hb hg).bind (Q := fun _ t => tHash t) (rds_hash hl) (fun _ t ht => by rw [tHash_err ht])
theorem dec_enc {s : Strm} (h : mayS s) (hb : s.base.length = 32) (hg : s.goal.length = 32) : decS (encS s) = (0, s) := by
  have hh := (rds_head h hb hg).ok (shaL (aheadS s))
  have ha := (rds_hash (shaL_length (aheadS s))).ok []
  rw [List.append_nil] at ha
  have hl := (encS_small h hb hg).1
  unfold decS
  rw [if_neg (by omega)]
  have e : encS s = aheadS s ++ shaL (aheadS s) := rfl
  have htk : (aheadS s ++ shaL (aheadS s)).take ((aheadS s ++ shaL (aheadS s)).length - (shaL (aheadS s)).length) = aheadS s := by
    rw [List.length_append, Nat.add_sub_cancel, List.take_left]
  simp only [e, hh, ha, htk]
  rw [if_pos (show (tFail (decide (0 < ([] : List W8).length)) ([], 0)).2 = 0 from rfl), if_pos trivial, if_pos h]
theorem dec_more {s : Strm} (h : mayS s) (hb : s.base.length = 32) (hg : s.goal.length = 32) (x : W8) : decS (encS s ++ [x]) = (3, Strm.zero) := by
  have hh := (rds_head h hb hg).ok (shaL (aheadS s) ++ [x])
  have ha := (rds_hash (shaL_length (aheadS s))).ok [x]
  have hl := (encS_small h hb hg).1
  unfold decS
  rw [if_neg (by rw [List.length_append]; simp; omega)]
  have e : encS s ++ [x] = aheadS s ++ (shaL (aheadS s) ++ [x]) := List.append_assoc _ _ _
  simp only [e, hh, ha]
  rfl
theorem dec_cut {s : Strm} (h : mayS s) (hb : s.base.length = 32) (hg : s.goal.length = 32) (k : Nat) (hk : k < (encS s).length) : decS ((encS s).take k) = (2, Strm.zero) := by
  have hl := (encS_small h hb hg).1
  have hc := (rds_all h hb hg (shaL (aheadS s)) (shaL_length _)).cut ((encS s).take k) ((encS s).drop k) (List.take_append_drop k (encS s)).symm (by
    intro e
    have := congrArg List.length e
    rw [List.length_drop] at this
    simp at this; omega)
  have hc' : (tHash (tHead ((encS s).take k, 0)).2).2.2 = 2 := hc
  unfold decS
  rw [if_neg (by rw [List.length_take]; omega)]
  have ht : ∀ q, tFail q (tHash (tHead ((encS s).take k, 0)).2).2 = (tHash (tHead ((encS s).take k, 0)).2).2 := fun q => tFail_err (by rw [hc']; decide)
  simp only [ht, hc']
  rfl
end Go.Proofs.Ytpbkdjnogjmfcaa
