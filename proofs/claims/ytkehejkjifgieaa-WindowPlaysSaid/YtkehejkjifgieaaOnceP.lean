/- WindowOnce: rows of strings; the plain law. -/
import Derived.Test.YtkehejkjifgieaaAliveW
namespace Go.Proofs.Ytkehejkjifgieaa
open Go.RowKit Go.ChangeMaps

/-- A row of strings of one's own. -/
def Sr (w : World) (base : Nat) (v : Value) (ls : List (List W8)) : Prop := Rw w base 9 v (ls.map (fun l => .string (str l)))
def Dis (v v' : Value) : Prop := ∀ k, v.ownBlock = some k → v'.ownBlock ≠ some k
theorem Dis.symm {v v' : Value} (h : Dis v v') : Dis v' v := fun k h1 h2 => h k h2 h1
section
variable {w w' : World} {base : Nat} {v v' : Value} {ls : List (List W8)}
theorem Sr.slice (h : Sr w base v ls) : ∃ p c, v = .slice p ls.length c := by
  obtain ⟨p, c, e⟩ := Rw.slice h
  rw [List.length_map] at e
  exact ⟨p, c, e⟩
theorem Sr.below (h : Sr w base v ls) (hb : Below w.heap.size w w') : Sr w' base v ls := Rw.below h hb
theorem Sr.kp {Ts : List TypeId} {b : Nat} (h : Sr w base v ls) (K : Kp Ts b w w') (hT : 9 ∉ Ts) : Sr w' base v ls := K.rw h hT
theorem Sr.cell (h : Sr w base v ls) {i : Nat} (hi : i < ls.length) : ∃ g cap, v = .slice (some ⟨g, 0, none⟩) ls.length cap ∧ ls.length ≤ cap ∧ w.cell? ⟨g, i, none⟩ = some (.string (str (ls.getD i []))) := by
  obtain ⟨g, cap, e, hc, h1⟩ := Rw.cell h (i := i) (by rw [List.length_map]; exact hi)
  rw [List.length_map] at e hc
  refine ⟨g, cap, e, hc, ?_⟩
  rw [h1, List.getElem_map, List.getD_eq_getElem?_getD, List.getElem?_eq_getElem hi]; rfl
theorem Sr.pushed {x : List W8} (hR : Rw w' base 9 v' (ls.map (fun l => .string (str l)) ++ [.string (str x)])) : Sr w' base v' (ls ++ [x]) := by
  unfold Sr
  rw [List.map_append]
  exact hR
theorem Sr.other {u : Value} {ls' : List (List W8)} (h : Sr w base v ls) (_ : Sr w base u ls') (hd : Dis v u) (M : Mod (fun k => u.ownBlock = some k) w w') : Sr w' base v ls := Rw.mod h M (fun k hk e => hd k hk e)
theorem dis_push {u u' : Value} (h : Sr w base v ls) (hd : Dis v u) (o : u'.ownBlock = u.ownBlock ∨ u'.ownBlock = some w.heap.size) : Dis v u' := by
  intro k hk e
  rcases o with o | o
  · rw [o] at e; exact hd k hk e
  · rw [o] at e
    have h1 := (Rw.lt h k hk).2
    have h2 := Option.some.inj e
    omega
end
/-- Four rows of strings, apart. -/
structure R4 (w : World) (base : Nat) (v7 v8 v9 va : Value) (P G D K : List (List W8)) : Prop where
  r7 : Sr w base v7 P
  r8 : Sr w base v8 G
  r9 : Sr w base v9 D
  ra : Sr w base va K
  d78 : Dis v7 v8
  d79 : Dis v7 v9
  d7a : Dis v7 va
  d89 : Dis v8 v9
  d8a : Dis v8 va
  d9a : Dis v9 va
section
variable {w w' : World} {base : Nat} {v7 v8 v9 va v' : Value} {P G D K : List (List W8)}
theorem R4.below (h : R4 w base v7 v8 v9 va P G D K) (hb : Below w.heap.size w w') : R4 w' base v7 v8 v9 va P G D K := ⟨h.r7.below hb, h.r8.below hb, h.r9.below hb, h.ra.below hb, h.d78, h.d79, h.d7a, h.d89, h.d8a, h.d9a⟩
theorem R4.kp {Ts : List TypeId} {b : Nat} (h : R4 w base v7 v8 v9 va P G D K) (k : Kp Ts b w w') (hT : 9 ∉ Ts) : R4 w' base v7 v8 v9 va P G D K := ⟨h.r7.kp k hT, h.r8.kp k hT, h.r9.kp k hT, h.ra.kp k hT, h.d78, h.d79, h.d7a, h.d89, h.d8a, h.d9a⟩
theorem R4.push7 {x : List W8} (h : R4 w base v7 v8 v9 va P G D K) (hR : Rw w' base 9 v' (P.map (fun l => .string (str l)) ++ [.string (str x)])) (M : Mod (fun k => v7.ownBlock = some k) w w') (o : v'.ownBlock = v7.ownBlock ∨ v'.ownBlock = some w.heap.size) : R4 w' base v' v8 v9 va (P ++ [x]) G D K :=
  ⟨Sr.pushed hR, h.r8.other h.r7 h.d78.symm M, h.r9.other h.r7 h.d79.symm M, h.ra.other h.r7 h.d7a.symm M, (dis_push h.r8 h.d78.symm o).symm, (dis_push h.r9 h.d79.symm o).symm, (dis_push h.ra h.d7a.symm o).symm, h.d89, h.d8a, h.d9a⟩
theorem R4.push8 {x : List W8} (h : R4 w base v7 v8 v9 va P G D K) (hR : Rw w' base 9 v' (G.map (fun l => .string (str l)) ++ [.string (str x)])) (M : Mod (fun k => v8.ownBlock = some k) w w') (o : v'.ownBlock = v8.ownBlock ∨ v'.ownBlock = some w.heap.size) : R4 w' base v7 v' v9 va P (G ++ [x]) D K :=
  ⟨h.r7.other h.r8 h.d78 M, Sr.pushed hR, h.r9.other h.r8 h.d89.symm M, h.ra.other h.r8 h.d8a.symm M, dis_push h.r7 h.d78 o, h.d79, h.d7a, (dis_push h.r9 h.d89.symm o).symm, (dis_push h.ra h.d8a.symm o).symm, h.d9a⟩
theorem R4.push9 {x : List W8} (h : R4 w base v7 v8 v9 va P G D K) (hR : Rw w' base 9 v' (D.map (fun l => .string (str l)) ++ [.string (str x)])) (M : Mod (fun k => v9.ownBlock = some k) w w') (o : v'.ownBlock = v9.ownBlock ∨ v'.ownBlock = some w.heap.size) : R4 w' base v7 v8 v' va P G (D ++ [x]) K :=
  ⟨h.r7.other h.r9 h.d79 M, h.r8.other h.r9 h.d89 M, Sr.pushed hR, h.ra.other h.r9 h.d9a.symm M, h.d78, dis_push h.r7 h.d79 o, h.d7a, dis_push h.r8 h.d89 o, h.d8a, (dis_push h.ra h.d9a.symm o).symm⟩
theorem R4.pusha {x : List W8} (h : R4 w base v7 v8 v9 va P G D K) (hR : Rw w' base 9 v' (K.map (fun l => .string (str l)) ++ [.string (str x)])) (M : Mod (fun k => va.ownBlock = some k) w w') (o : v'.ownBlock = va.ownBlock ∨ v'.ownBlock = some w.heap.size) : R4 w' base v7 v8 v9 v' P G D (K ++ [x]) :=
  ⟨h.r7.other h.ra h.d7a M, h.r8.other h.ra h.d8a M, h.r9.other h.ra h.d9a M, Sr.pushed hR, h.d78, h.d79, dis_push h.r7 h.d7a o, h.d89, dis_push h.r8 h.d8a o, dis_push h.r9 h.d9a o⟩
end
theorem R4.start (w2 : World) {base : Nat} (hb : base ≤ w2.heap.size) : R4 ((((w2.alloc (.cells #[] 9)).alloc (.cells #[] 9)).alloc (.cells #[] 9)).alloc (.cells #[] 9)) base (.slice (some ⟨w2.heap.size, 0, none⟩) 0 0) (.slice (some ⟨w2.heap.size + 1, 0, none⟩) 0 0) (.slice (some ⟨w2.heap.size + 1 + 1, 0, none⟩) 0 0) (.slice (some ⟨w2.heap.size + 1 + 1 + 1, 0, none⟩) 0 0) [] [] [] [] := by
  have key : ∀ (W : World) (k : Nat), k = W.heap.size → Blk (W.alloc (.cells #[] 9)) k #[] 9 := fun W k e => by rw [e]; exact Blk.new W _ _
  have dis : ∀ {a b : Nat}, a ≠ b → Dis (.slice (some ⟨a, 0, none⟩) 0 0) (.slice (some ⟨b, 0, none⟩) 0 0) := fun h k h1 h2 => by
    have e1 := Option.some.inj h1
    have e2 := Option.some.inj h2
    exact h (e1.trans e2.symm)
  refine ⟨?_, ?_, ?_, ?_, dis (by omega), dis (by omega), dis (by omega), dis (by omega), dis (by omega), dis (by omega)⟩
  · exact Rw.empty ((((key w2 _ rfl).alloc _).alloc _).alloc _) (by omega)
  · exact Rw.empty (((key (w2.alloc _) _ (by simp)).alloc _).alloc _) (by omega)
  · exact Rw.empty ((key ((w2.alloc _).alloc _) _ (by simp)).alloc _) (by omega)
  · exact Rw.empty (key (((w2.alloc _).alloc _).alloc _) _ (by simp)) (by omega)
/-- A row of strings grows: what else lies there stays. -/
theorem PR.strings {w w' : World} {base s t mb r mc b0 n : Nat} {l : List (List W8)} {m : List Ent} {A : Int → Option (List W8)} {b : Nat} {v : Value} {ls : List (List W8)} (h : PR w base s t mb r mc l b0 m n A) (hv : Sr w b v ls) (M : Mod (fun k => v.ownBlock = some k) w w') : PR w' base s t mb r mc l b0 m n A :=
  h.mod M (fun k hk _ => by obtain ⟨cs, hb⟩ := Rw.kind hv hk; exact ⟨cs, _, hb, by decide, by decide, by decide, by decide, by decide, by decide⟩)
theorem Us.strings {w w' : World} {base b : Nat} {v u : Value} {us : List (Value × List W8)} {ls : List (List W8)} (h : Us w base u us) (hv : Sr w b v ls) (M : Mod (fun k => v.ownBlock = some k) w w') : Us w' base u us :=
  h.mod M (fun k cs T hb hT hk => by
    obtain ⟨cs', hb'⟩ := Rw.kind hv hk
    have := (Blk.inj hb hb').2
    rcases hT with e | e <;> rw [e] at this <;> exact absurd this (by decide))
theorem Ut.strings {w w' : World} {b1 b2 b : Nat} {v u : Value} {us : List (Value × List W8)} {ls : List (List W8)} (h : Ut w b1 b2 u us) (hv : Sr w b v ls) (M : Mod (fun k => v.ownBlock = some k) w w') : Ut w' b1 b2 u us :=
  h.mod M (fun k cs T hb hT hk => by
    obtain ⟨cs', hb'⟩ := Rw.kind hv hk
    have := (Blk.inj hb hb').2
    rcases hT with e | e <;> rw [e] at this <;> exact absurd this (by decide))
theorem Mod.strings {w w' : World} {base b : Nat} {v : Value} {ls : List (List W8)} (hv : Sr w base v ls) (M : Mod (fun k => v.ownBlock = some k) w w') (hb : b ≤ base) (hw : b ≤ w.heap.size) : Below b w w' := M.below hw (fun k hk e => by have := (Rw.lt hv k e).1; omega)

/-- Those ahead are messages that were put, each at its place. -/
def RA (P : List (List W8)) (A : Int → Option (List W8)) : Prop := ∀ x l, A x = some l → ∃ k : Nat, x = (k : Int) ∧ k < P.length ∧ l = P.getD k []
theorem next_take (P : List (List W8)) : ∀ (f n : Nat) (A : Int → Option (List W8)), RA P A → n ≤ P.length → n ≤ (nextA f n A).2.1 ∧ (nextA f n A).2.1 ≤ P.length ∧ P.take n ++ (nextA f n A).1 = P.take (nextA f n A).2.1 ∧ RA P (nextA f n A).2.2
  | 0, n, A, h, hn => ⟨Nat.le_refl _, hn, by show P.take n ++ [] = P.take n; rw [List.append_nil], h⟩
  | f + 1, n, A, h, hn => by
    cases e : A (n : Int) with
    | none => rw [nextA_none e]; exact ⟨Nat.le_refl _, hn, by show P.take n ++ [] = P.take n; rw [List.append_nil], h⟩
    | some l =>
      rw [nextA_some e]
      obtain ⟨k, hk, hkl, rfl⟩ := h _ _ e
      have hkn : k = n := by omega
      subst hkn
      obtain ⟨h1, h2, h3, h4⟩ := next_take P f (k + 1) (delA A (k : Int)) (fun x l hx => h x l (by
        by_cases ex : x = (k : Int)
        · rw [show delA A (k : Int) x = none from if_pos ex] at hx; cases hx
        · rwa [show delA A (k : Int) x = A x from if_neg ex] at hx)) hkl
      refine ⟨by show k ≤ (nextA f (k + 1) _).2.1; omega, h2, ?_, h4⟩
      show P.take k ++ (P.getD k [] :: (nextA f (k + 1) (delA A (k : Int))).1) = P.take (nextA f (k + 1) (delA A (k : Int))).2.1
      rw [← h3, List.take_succ_eq_append_getElem hkl, List.append_assoc]
      congr 1
      rw [List.getD_eq_getElem?_getD, List.getElem?_eq_getElem hkl]; rfl
def isData (P : List (List W8)) (d : List W8) : Prop := ∃ k : Nat, k < P.length ∧ d = dataB k (P.getD k [])
def isAck (n : Nat) (a : List W8) : Prop := ∃ k : Nat, k ≤ n ∧ a = ackB k
theorem hear_take {P : List (List W8)} {n k : Nat} {A : Int → Option (List W8)} (h : RA P A) (hn : n ≤ P.length) (hk : k < P.length) (hN : P.length ≤ 1000) (hl : (P.getD k []).length ≤ 500) :
    ∃ n' A', (rhearM (dataB k (P.getD k [])) n A) = (0, (rhearM (dataB k (P.getD k [])) n A).2.1, ackB n', n', A') ∧ n ≤ n' ∧ n' ≤ P.length ∧ P.take n ++ (rhearM (dataB k (P.getD k [])) n A).2.1 = P.take n' ∧ RA P A' := by
  unfold rhearM
  rw [parse_data (by omega) hl, if_pos rfl]
  have hR : RA P (takeA n k (P.getD k []) A) := by
    unfold takeA
    split
    · intro x l hx
      by_cases ex : x = (k : Int)
      · rw [show updA A (k : Int) (P.getD k []) x = some (P.getD k []) from if_pos ex] at hx
        cases hx
        exact ⟨k, ex, hk, rfl⟩
      · rw [show updA A (k : Int) (P.getD k []) x = A x from if_neg ex] at hx
        exact h x l hx
    · exact h
  obtain ⟨h1, h2, h3, h4⟩ := next_take P 8 n _ hR hn
  exact ⟨_, _, rfl, h1, h2, h3, h4⟩
theorem ack_take {P : List (List W8)} {b n k : Nat} {m : List Ent} (hb : b ≤ n) (hk : k ≤ n) (hn : n ≤ P.length) (hN : P.length ≤ 1000) :
    (ackN (ackB k)).1 = 0 ∧ ∃ b', (hearM (ackB k) (P.drop b) b m).1 = P.drop b' ∧ (hearM (ackB k) (P.drop b) b m).2.1 = b' ∧ b' ≤ n := by
  refine ⟨by rw [ack_ack (by omega)], ?_⟩
  unfold hearM
  rw [ack_ack (by omega), if_pos rfl]
  unfold cameM
  by_cases h : b < k ∧ k - b ≤ (P.drop b).length
  · rw [if_pos h]
    refine ⟨k, ?_, rfl, hk⟩
    show (P.drop b).drop (k - b) = P.drop k
    rw [List.drop_drop]
    congr 1
    omega
  · rw [if_neg h]
    exact ⟨b, rfl, rfl, hb⟩
theorem out_data {now b : Nat} : ∀ (l : List (List W8)) (i : Nat) (m : List Ent), ∀ f ∈ (outL now b l i m).1, ∃ j, j < l.length ∧ f = dataB (b + i + j) (l.getD j [])
  | [], _, _, f, h => by cases h
  | x :: l, i, m, f, h => by
    by_cases hw : hasL m ((b + i : Nat) : Int) = true ∧ (now : Int) < dueAt m ((b + i : Nat) : Int)
    · have hs : outL now b (x :: l) i m = outL now b l (i + 1) m := if_pos hw
      rw [hs] at h
      obtain ⟨j, h1, h2⟩ := out_data l (i + 1) m f h
      exact ⟨j + 1, by simpa using h1, by rw [h2]; show dataB (b + (i + 1) + j) (l.getD j []) = dataB (b + i + (j + 1)) (l.getD j []); congr 1; omega⟩
    · have hs : outL now b (x :: l) i m = (dataB (b + i) x :: (outL now b l (i + 1) (setL m ((b + i : Nat) : Int) (laterN now))).1, (outL now b l (i + 1) (setL m ((b + i : Nat) : Int) (laterN now))).2) := if_neg hw
      rw [hs] at h
      rcases List.mem_cons.1 h with rfl | h
      · exact ⟨0, by simp, rfl⟩
      · obtain ⟨j, h1, h2⟩ := out_data l (i + 1) _ f h
        exact ⟨j + 1, by simpa using h1, by rw [h2]; show dataB (b + (i + 1) + j) (l.getD j []) = dataB (b + i + (j + 1)) (l.getD j []); congr 1; omega⟩
theorem out_isData {P : List (List W8)} {now b : Nat} {m : List Ent} : ∀ f ∈ (outL now b ((P.drop b).take 8) 0 m).1, isData P f := by
  intro f hf
  obtain ⟨j, h1, h2⟩ := out_data _ _ _ f hf
  rw [List.length_take, List.length_drop] at h1
  refine ⟨b + j, by omega, ?_⟩
  rw [h2, Nat.add_zero]
  congr 1
  rw [List.getD_eq_getElem?_getD, List.getD_eq_getElem?_getD, List.getElem?_take_of_lt (by omega), List.getElem?_drop]
theorem outL_len {now b : Nat} : ∀ (l : List (List W8)) (i : Nat) (m : List Ent), (outL now b l i m).1.length ≤ l.length
  | [], _, _ => Nat.le_refl _
  | x :: l, i, m => by
    by_cases hw : hasL m ((b + i : Nat) : Int) = true ∧ (now : Int) < dueAt m ((b + i : Nat) : Int)
    · have hs : outL now b (x :: l) i m = outL now b l (i + 1) m := if_pos hw
      rw [hs]
      exact Nat.le_trans (outL_len l (i + 1) m) (by simp)
    · have hs : outL now b (x :: l) i m = (dataB (b + i) x :: (outL now b l (i + 1) (setL m ((b + i : Nat) : Int) (laterN now))).1, (outL now b l (i + 1) (setL m ((b + i : Nat) : Int) (laterN now))).2) := if_neg hw
      rw [hs]
      have := outL_len (now := now) (b := b) l (i + 1) (setL m ((b + i : Nat) : Int) (laterN now))
      show (outL now b l (i + 1) _).1.length + 1 ≤ l.length + 1
      omega
theorem ackB_len (k : Nat) : (ackB k).length ≤ 100000 := by rw [ackB_length]; decide
/-- Where the walk stands between two fates. -/
def OR (w : World) (base s t mb r mc : Nat) (P : List (List W8)) (v7 v8 v9 va : Value) (i : Nat) : Prop :=
  ∃ b n m A D K, PR w base s t mb r mc (P.drop b) b m n A ∧ R4 w base v7 v8 v9 va P (P.take n) D K ∧ RA P A ∧ b ≤ n ∧ n ≤ P.length ∧ (∀ d ∈ D, isData P d) ∧ (∀ a ∈ K, isAck n a) ∧ D.length ≤ 8 * i ∧ K.length ≤ i
end Go.Proofs.Ytkehejkjifgieaa
