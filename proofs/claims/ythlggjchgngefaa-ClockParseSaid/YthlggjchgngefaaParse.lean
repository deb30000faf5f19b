/- A text as seconds: the program. -/
import Derived.Test.YthlggjchgngefaaTake
namespace Go.Proofs.Ythlggjchgngefaa
open Go.RowKit

def po : Nat → Nat
  | 0 => 0 | 1 => 5 | 2 => 8 | 3 => 11 | 4 => 14 | 5 => 17 | _ => 19
def pl : Nat → Nat
  | 0 => 4 | _ => 2
def pt : Nat → ByteArray
  | 0 => ⟨#[45]⟩ | 1 => ⟨#[45]⟩ | 2 => ⟨#[84]⟩ | 3 => ⟨#[58]⟩ | 4 => ⟨#[58]⟩ | _ => ⟨#[]⟩
theorem six {i : Nat} (h : i < 6) : i = 0 ∨ i = 1 ∨ i = 2 ∨ i = 3 ∨ i = 4 ∨ i = 5 := by omega
theorem po_next {i : Nat} (h : i < 6) : po i + pl i + (pt i).size = po (i + 1) ∧ po (i + 1) ≤ 19 ∧ po i + pl i ≤ 19 ∧ pl i ≤ 4 ∧ (pt i).size ≤ 1 := by
  rcases six h with rfl | rfl | rfl | rfl | rfl | rfl <;> decide
def tab (B1 j : Nat) : Value := if j % 3 = 0 then .pointer (some ⟨B1, j / 3, none⟩) else if j % 3 = 1 then .int .i64 (pl (j / 3) : Nat) else .string (pt (j / 3))
def partOk (s : ByteArray) (j : Nat) : Prop := (s.data.toList.drop (po j + pl j)).take (pt j).size = (pt j).data.toList ∧ ∃ x, Cal.num (seg s (po j) (pl j)) 0 = some x
theorem seg_of {S T : ByteArray} {p : Nat} (h : T.data.toList = S.data.toList.drop p) (k : Nat) : seg T 0 k = seg S p k := by
  unfold seg; rw [h, List.drop_zero]
theorem take_of {s T : ByteArray} {i : Nat} (h : T.data.toList = s.data.toList.drop (po i)) : takeN T (pl i) (pt i) = if (s.data.toList.drop (po i + pl i)).take (pt i).size = (pt i).data.toList then Cal.num (seg s (po i) (pl i)) 0 else none := by
  unfold takeN
  rw [seg_of h, h, List.drop_drop]
theorem size_of_drop {s T : ByteArray} {p : Nat} (hs : s.size = 19) (h : T.data.toList = s.data.toList.drop p) : T.size = 19 - p := by
  have := congrArg List.length h
  simp at this
  have e1 : T.data.size = T.size := rfl
  have e2 : s.data.size = s.size := rfl
  omega
theorem one_fn (w : World) (v : Value) (T : TypeId) : Fn (w.alloc (.cells #[v] T)) w.heap.size T 1 (fun _ => v) :=
  Fn.new w #[v] T rfl (fun j hj => by
    have : j = 0 := by omega
    subst this; rfl)
theorem sep_iff {s : ByteArray} {p : Nat} (h : p < s.size) (c : UInt8) : (s.data.toList.drop p).take 1 = [c] ↔ bt s p = c.toNat := by
  have hl : p < s.data.toList.length := by simpa using h
  rw [List.drop_eq_getElem_cons hl]
  unfold bt
  rw [List.getD_eq_getElem?_getD, List.getElem?_eq_getElem hl]
  simp only [List.take_succ_cons, List.take_zero, List.cons.injEq, and_true, Option.getD_some]
  exact ⟨fun e => by rw [e], fun e => UInt8.toNat_inj.1 e⟩
theorem num_iff (l : List UInt8) : (∃ x, Cal.num l 0 = some x) ↔ 0 ≤ numOr (Cal.num l 0) := by
  constructor
  · rintro ⟨x, hx⟩
    rw [hx]
    exact Cal.num_lo l 0 x (by omega) hx
  · intro h
    cases hq : Cal.num l 0 with
    | none => rw [hq] at h; simp [numOr] at h
    | some x => exact ⟨x, rfl⟩
theorem all_ok {s : ByteArray} (hs : s.size = 19) : (∀ j, j < 6 → partOk s j) ↔ (Seps s ∧ Nums s) := by
  have i4 := sep_iff (s := s) (p := 4) (by omega) 45
  have i7 := sep_iff (s := s) (p := 7) (by omega) 45
  have i10 := sep_iff (s := s) (p := 10) (by omega) 84
  have i13 := sep_iff (s := s) (p := 13) (by omega) 58
  have i16 := sep_iff (s := s) (p := 16) (by omega) 58
  constructor
  · intro h
    have h0 := h 0 (by omega)
    have h1 := h 1 (by omega)
    have h2 := h 2 (by omega)
    have h3 := h 3 (by omega)
    have h4 := h 4 (by omega)
    have h5 := h 5 (by omega)
    exact ⟨⟨hs, i4.1 h0.1, i7.1 h1.1, i10.1 h2.1, i13.1 h3.1, i16.1 h4.1⟩, (num_iff _).1 h0.2, (num_iff _).1 h1.2, (num_iff _).1 h2.2, (num_iff _).1 h3.2, (num_iff _).1 h4.2, (num_iff _).1 h5.2⟩
  · rintro ⟨⟨_, q4, q7, q10, q13, q16⟩, n0, n5, n8, n11, n14, n17⟩ j hj
    rcases six hj with rfl | rfl | rfl | rfl | rfl | rfl
    · exact ⟨i4.2 q4, (num_iff _).2 n0⟩
    · exact ⟨i7.2 q7, (num_iff _).2 n5⟩
    · exact ⟨i10.2 q10, (num_iff _).2 n8⟩
    · exact ⟨i13.2 q13, (num_iff _).2 n11⟩
    · exact ⟨i16.2 q16, (num_iff _).2 n14⟩
    · exact ⟨rfl, (num_iff _).2 n17⟩

set_option maxRecDepth 100000 in
set_option maxHeartbeats 4000000 in
theorem parse_19 (w : World) (s : ByteArray) (hs : s.size = 19) : Calls Try.prog 14 #[.string s] w fun e w' => ParseAns s e ∧ Below w.heap.size w w' := by
  have HS := hid hs
  have hb : ((s.size : Int) != 19) = false := by simp [hs]
  have h4 : 19 ≤ s.size := by omega
  have h5 : s.size ≤ 19 := by omega
  clear hs
  obtain ⟨W, hW⟩ : ∃ W, W = ((w.alloc (.cells #[.string s] 9)).alloc (.cells #[.int .i64 0, .int .i64 0, .int .i64 0, .int .i64 0, .int .i64 0, .int .i64 0] 23)).alloc (.cells #[.pointer (some ⟨w.heap.size + 1, 0, none⟩), .int .i64 4, .string ⟨#[45]⟩, .pointer (some ⟨w.heap.size + 1, 1, none⟩), .int .i64 2, .string ⟨#[45]⟩, .pointer (some ⟨w.heap.size + 1, 2, none⟩), .int .i64 2, .string ⟨#[84]⟩, .pointer (some ⟨w.heap.size + 1, 3, none⟩), .int .i64 2, .string ⟨#[58]⟩, .pointer (some ⟨w.heap.size + 1, 4, none⟩), .int .i64 2, .string ⟨#[58]⟩, .pointer (some ⟨w.heap.size + 1, 5, none⟩), .int .i64 2, .string ⟨#[]⟩] 51) := ⟨_, rfl⟩
  have LW := hid (show Below w.heap.size w W by rw [hW]; exact (((Below.refl _ _).alloc (Nat.le_refl _) _).alloc (by simp) _).alloc (by simp; omega) _)
  have hz : W.heap.size = w.heap.size + 3 := by rw [hW]; simp
  have z1 : (w.alloc (.cells #[.string s] 9)).heap.size = w.heap.size + 1 := by simp
  have F0 := hid (show Fn W w.heap.size 9 1 (fun _ => .string s) by
    rw [hW]
    exact ((one_fn w _ _).alloc _).alloc _)
  have F1 := hid (show Fn W (w.heap.size + 1) 23 6 (fun _ => .int .i64 0) by
    rw [hW, ← z1]
    exact ((Fn.new (w.alloc (.cells #[.string s] 9)) #[.int .i64 0, .int .i64 0, .int .i64 0, .int .i64 0, .int .i64 0, .int .i64 0] 23 (n := 6) (f := fun _ => .int .i64 0) rfl (fun j hj => by
      rcases six hj with rfl | rfl | rfl | rfl | rfl | rfl <;> rfl))).alloc _)
  have z2 : ((w.alloc (.cells #[.string s] 9)).alloc (.cells #[.int .i64 0, .int .i64 0, .int .i64 0, .int .i64 0, .int .i64 0, .int .i64 0] 23)).heap.size = w.heap.size + 2 := by simp
  have F2 := hid (show Fn W (w.heap.size + 2) 51 18 (tab (w.heap.size + 1)) by
    rw [hW, ← z2]
    exact Fn.new _ _ 51 (n := 18) rfl (fun j hj => by
      have : j = 0 ∨ j = 1 ∨ j = 2 ∨ j = 3 ∨ j = 4 ∨ j = 5 ∨ j = 6 ∨ j = 7 ∨ j = 8 ∨ j = 9 ∨ j = 10 ∨ j = 11 ∨ j = 12 ∨ j = 13 ∨ j = 14 ∨ j = 15 ∨ j = 16 ∨ j = 17 := by omega
      rcases this with rfl | rfl | rfl | rfl | rfl | rfl | rfl | rfl | rfl | rfl | rfl | rfl | rfl | rfl | rfl | rfl | rfl | rfl <;> rfl))
  clear z1 z2
  have HZ := hid hz
  go_enter Try.func14, Try.ntmps14
  go_wp2_with fail
  rw [← hW]
  clear hW
  obtain ⟨B0, hB0⟩ : ∃ B0, B0 = w.heap.size := ⟨_, rfl⟩
  obtain ⟨B1, hB1⟩ : ∃ B1, B1 = w.heap.size + 1 := ⟨_, rfl⟩
  obtain ⟨B2, hB2⟩ : ∃ B2, B2 = w.heap.size + 2 := ⟨_, rfl⟩
  have q0 : w.heap.size ≤ B0 := by omega
  have q1 : B0 < B1 := by omega
  have q2 : B1 < B2 := by omega
  have q3 : B2 < W.heap.size := by omega
  have e2 : w.heap.size + 1 + 1 = w.heap.size + 2 := rfl
  rw [e2]
  rw [← hB2, ← hB1] at F2
  rw [← hB1] at F1
  rw [← hB0] at F0
  rw [← hB2, ← hB1, ← hB0]
  clear hz HZ hB0 hB1 hB2 e2
  have LW2 := hid LW.out
  go_loopg [6, 7, 8, 26] 6 (fun g _ _ _ v26 wr => ∃ (i : Nat) (T : ByteArray), v26 = .int .i64 i ∧ g = 6 - i ∧ i ≤ 6 ∧ Hid (T.data.toList = s.data.toList.drop (po i)) ∧ Hid (Fn wr B0 9 1 (fun _ => .string T)) ∧
    Hid (Fn wr B1 23 6 (fun j => if j < i then .int .i64 (nm s (po j) (pl j)) else .int .i64 0)) ∧ Hid (Fn wr B2 51 18 (tab B1)) ∧ Hid (Below w.heap.size w wr) ∧ Hid (∀ j, j < i → partOk s j))
  case atStart => exact ⟨0, s, rfl, rfl, by omega, hid rfl, F0, hid (F1.out.congr (fun j _ => by rw [if_neg (by omega)])), F2, LW2, hid (fun j hj => by omega)⟩
  case round =>
    clear F0 F1 F2 LW
    obtain ⟨i, T, rfl, rfl, hi, HT, F0, F1, F2, L, OK⟩ := hrel
    by_cases hlt : i < 6
    · have n := po_next hlt
      have hT := size_of_drop HS.out HT.out
      have r3 := F2.out.lt
      have d0 : wr.cell? ⟨B2, i * 3, none⟩ = some (.pointer (some ⟨B1, i, none⟩)) := by
        have := F2.out.cell (j := i * 3) (by omega)
        rw [this, tab, if_pos (by omega), show i * 3 / 3 = i by omega]
      have d1 : wr.cell? ⟨B2, i * 3 + 1, none⟩ = some (.int .i64 (pl i : Nat)) := by
        have := F2.out.cell (j := i * 3 + 1) (by omega)
        rw [this, tab, if_neg (by omega), if_pos (by omega), show (i * 3 + 1) / 3 = i by omega]
      have d2 : wr.cell? ⟨B2, i * 3 + 2, none⟩ = some (.string (pt i)) := by
        have := F2.out.cell (j := i * 3 + 2) (by omega)
        rw [this, tab, if_neg (by omega), if_neg (by omega), show (i * 3 + 2) / 3 = i by omega]
      obtain ⟨n1, n2, n3, n4, n5⟩ := n
      have N1 := hid n1
      have HTs := hid hT
      clear n1 hT
      have HTK := hid (take_of HT.out)
      have HPT : pl i ≤ T.size := by have := HTs.out; omega
      go_wp2_with fail
      refine (take_c _ B0 T (pt i) (pl i) HPT n4 (F0.out.alloc _)).mono ?_
      rintro e w2 ⟨M, ⟨x, hx, rfl, T', hT', hF0⟩ | ⟨hn, rfl⟩⟩
      · have M' := hid M
        have F1' := hid ((F1.out.alloc (.cells #[.pointer (some ⟨B1, i, none⟩), .int .i64 (pl i : Nat), .string (pt i)] 51)).mod M (by omega))
        have F2' := hid ((F2.out.alloc (.cells #[.pointer (some ⟨B1, i, none⟩), .int .i64 (pl i : Nat), .string (pt i)] 51)).mod M (by omega))
        have ck : w2.cell? ⟨wr.heap.size, 0, none⟩ = some (.pointer (some ⟨B1, i, none⟩)) := (M.blk (Blk.new wr _ _) (by omega)).cellv rfl
        have cx : w2.cell? ⟨B1, i, none⟩ = some (.int .i64 0) := by
          have := F1'.out.cell hlt
          rw [if_neg (by omega)] at this; exact this
        have fx : w2.frozen? ⟨B1, i, none⟩ = false := F1'.out.frozen i
        have lx : B1 < w2.heap.size := F1'.out.lt
        have hx' := hid (HTK.out.symm.trans hx)
        have HTT := hid hT'
        have F0' := hid hF0
        clear M hx hF0 hT'
        have LL := hid (show Below w.heap.size w w2 from L.out.trans ((((Mod.refl (fun k => k = B0) wr).alloc _).trans M'.out).below L.out.size (fun k hk e => by omega)))
        have HP := hid (show partOk s i ∧ nm s (po i) (pl i) = x by
          have h1 := hx'.out
          split at h1
          · rename_i h2
            exact ⟨⟨h2, x, h1⟩, by unfold nm numOr; rw [h1]; rfl⟩
          · cases h1)
        go_wp2_with fail
        go_roundg (6 - (i + 1))
        case measure => omega
        case rel =>
          refine ⟨i + 1, T', by go_num, rfl, by omega, hid ?_, hid (F0'.out.other (show B1 ≠ B0 by omega) _), hid ?_, hid (F2'.out.other (show B1 ≠ B2 by omega) _), hid (LL.out.setCell (show w.heap.size ≤ B1 by omega) _), hid ?_⟩
          · rw [HTT.out, HT.out, List.drop_drop, ← N1.out, Nat.add_assoc]
          · refine (F1'.out.set i (.int .i64 x)).congr (fun j hj => ?_)
            unfold set1
            dsimp only
            by_cases e : j = i
            · subst e; rw [if_pos rfl, if_pos (by omega), HP.out.2]
            · rw [if_neg e]
              by_cases e2 : j < i
              · rw [if_pos e2, if_pos (by omega)]
              · rw [if_neg e2, if_neg (by omega)]
          · intro j hj
            by_cases e : j = i
            · subst e; exact HP.out.1
            · exact OK.out j (by omega)
      · have HN := hid (show ¬ (Seps s ∧ Nums s) from fun hh => by
          have := (all_ok HS.out).2 hh i hlt
          obtain ⟨p1, x, p2⟩ := this
          have h1 := HTK.out
          rw [hn, if_pos p1, p2] at h1
          cases h1)
        have M' := hid M
        clear M hn
        go_wp2
        go_ret2
        exact ⟨Or.inr ⟨HN.out, rfl⟩, L.out.trans ((((Mod.refl (fun k => k = B0) wr).alloc _).trans M'.out).below L.out.size (fun k hk e => by omega))⟩
    · have hi6 : i = 6 := by omega
      subst hi6
      have x0 : wr.cell? ⟨B1, 0, none⟩ = some (.int .i64 (nm s 0 4)) := F1.out.cell (j := 0) (by omega)
      have x1 : wr.cell? ⟨B1, 1, none⟩ = some (.int .i64 (nm s 5 2)) := F1.out.cell (j := 1) (by omega)
      have x2 : wr.cell? ⟨B1, 2, none⟩ = some (.int .i64 (nm s 8 2)) := F1.out.cell (j := 2) (by omega)
      have x3 : wr.cell? ⟨B1, 3, none⟩ = some (.int .i64 (nm s 11 2)) := F1.out.cell (j := 3) (by omega)
      have x4 : wr.cell? ⟨B1, 4, none⟩ = some (.int .i64 (nm s 14 2)) := F1.out.cell (j := 4) (by omega)
      have x5 : wr.cell? ⟨B1, 5, none⟩ = some (.int .i64 (nm s 17 2)) := F1.out.cell (j := 5) (by omega)
      have HSN := hid ((all_ok HS.out).1 OK.out)
      go_wp2_with (go_at_call 8; refine (join_c _ _ _ _ _ _ _).mono ?_; rintro e w' ⟨hA, hb⟩; obtain ⟨x, c, rfl, hA'⟩ := hA.form; have HA := hid hA'; have LJ := hid hb; clear hA hb hA')
      go_ret2
      exact ⟨Or.inl ⟨HSN.out.1, HSN.out.2, HA.out⟩, L.out.trans (LJ.out.mono L.out.size)⟩
theorem parse_no (w : World) (s : ByteArray) (hs : s.size ≠ 19) : Calls Try.prog 14 #[.string s] w fun e w' => ParseAns s e ∧ Below w.heap.size w w' := by
  have HS := hid hs
  have hb : ((s.size : Int) != 19) = true := by rw [bne_iff_ne]; omega
  clear hs
  go_enter Try.func14, Try.ntmps14
  go_wp2
  go_ret2
  exact ⟨Or.inr ⟨fun h => HS.out h.1.1, rfl⟩, (Below.refl _ _).alloc (Nat.le_refl _) _⟩
theorem parse_c (w : World) (s : ByteArray) : Calls Try.prog 14 #[.string s] w fun e w' => ParseAns s e ∧ Below w.heap.size w w' := by
  by_cases h : s.size = 19
  · exact parse_19 w s h
  · exact parse_no w s h
end Go.Proofs.Ythlggjchgngefaa
