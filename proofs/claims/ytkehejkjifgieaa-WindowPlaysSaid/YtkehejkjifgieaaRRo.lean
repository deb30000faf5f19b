/- The document's Out: its answer; what its loop keeps. -/
import Derived.Test.YtkehejkjifgieaaRNum
namespace Go.Proofs.Ytkehejkjifgieaa
open Go.RowKit Go.ChangeMaps

/-- What the document's Out sends from a place on, at most so many; and the timers then. -/
def outR (now : Nat) (L : List (List W8)) : Nat → Nat → List Bool → List Nat → List (List W8) × List Bool × List Nat
  | 0, _, H, T => ([], H, T)
  | f + 1, i, H, T => if i < L.length then (if H.getD i false = true ∧ now < T.getD i 0 then outR now L f (i + 1) H T else (dataB i (L.getD i []) :: (outR now L f (i + 1) (H.set i true) (T.set i (laterN now))).1, (outR now L f (i + 1) (H.set i true) (T.set i (laterN now))).2)) else ([], H, T)
theorem outR_end {now : Nat} {L : List (List W8)} {f i : Nat} {H : List Bool} {T : List Nat} (h : L.length ≤ i) : outR now L f i H T = ([], H, T) := by
  cases f with
  | zero => rfl
  | succ f => exact if_neg (by omega)
theorem outR_skip {now : Nat} {L : List (List W8)} {f i : Nat} {H : List Bool} {T : List Nat} (h : i < L.length) (hh : H.getD i false = true) (ht : now < T.getD i 0) : outR now L (f + 1) i H T = outR now L f (i + 1) H T := (if_pos h).trans (if_pos ⟨hh, ht⟩)
theorem outR_send {now : Nat} {L : List (List W8)} {f i : Nat} {H : List Bool} {T : List Nat} (h : i < L.length) (hs : ¬ (H.getD i false = true ∧ now < T.getD i 0)) : outR now L (f + 1) i H T = (dataB i (L.getD i []) :: (outR now L f (i + 1) (H.set i true) (T.set i (laterN now))).1, (outR now L f (i + 1) (H.set i true) (T.set i (laterN now))).2) := (if_pos h).trans (if_neg hs)
section
variable {w w' : World} {base g n cap : Nat} {T : TypeId} {xs : List Value}
theorem Rw.set (h : Rw w base T (.slice (some ⟨g, 0, none⟩) n cap) xs) (hn : n = xs.length) (j : Nat) (u : Value) : Rw (w.setCell ⟨g, j, none⟩ u) base T (.slice (some ⟨g, 0, none⟩) n cap) (xs.set j u) := by
  subst hn
  unfold Rw
  rw [List.length_set]
  exact (World.ownsRow.stored h j u).1
theorem Rw.frozen (h : Rw w base T (.slice (some ⟨g, 0, none⟩) n cap) xs) (hn : n = xs.length) (j : Nat) : w.frozen? ⟨g, j, none⟩ = false := by
  subst hn
  exact World.ownsRow.frozenAt h j
theorem Mod.cell (w : World) (g j : Nat) (u : Value) : Mod (fun k => k = g) w (w.setCell ⟨g, j, none⟩ u) := (Mod.refl (fun k => k = g) w).setCell (p := ⟨g, j, none⟩) (fun _ => rfl) u
theorem Rw.set_other {g j : Nat} {T' : TypeId} {v : Value} {u : Value} {cs : Array Value} (h : Rw w base T v xs) (hg : Blk w g cs T') (hT : T ≠ T') : Rw (w.setCell ⟨g, j, none⟩ u) base T v xs := h.mod (Mod.cell w g j u) (fun k hk e => by
  obtain ⟨cs', hb⟩ := h.kind hk
  rw [e] at hb
  exact hT (Blk.inj hb hg).2)
theorem Us.set_other {g j : Nat} {T' : TypeId} {v : Value} {u : Value} {cs : Array Value} {us : List (Value × List W8)} (h : Us w base v us) (hg : Blk w g cs T') (h1 : T' ≠ 29) (h2 : T' ≠ 5) : Us (w.setCell ⟨g, j, none⟩ u) base v us := h.mod (Mod.cell w g j u) (fun k cs' T hb hT e => by
  rw [e] at hb
  have := (Blk.inj hb hg).2
  rcases hT with e | e <;> rw [e] at this
  · exact h1 this.symm
  · exact h2 this.symm)
end
/-- What stands between two rounds of the document's Out. -/
structure RO (w w' : World) (c2 c4 : Array Value) (v6 v7 v8 : Value) (us : List (Value × List W8)) (H : List Bool) (T : List Nat) : Prop where
  u : Us w' w.heap.size v8 us
  h : Rw w' w.heap.size 4 v6 (H.map (fun q => .bool q))
  t : Rw w' w.heap.size 31 v7 (T.map (fun (n : Nat) => Value.int .u64 (n : Int)))
  k2 : Blk w' w.heap.size c2 44
  k4 : Blk w' (w.heap.size + 1) c4 44
  b : Below w.heap.size w w'
section
variable {w w' w'' : World} {c2 c4 : Array Value} {v6 v7 v8 : Value} {us : List (Value × List W8)} {H : List Bool} {T : List Nat}
theorem RO.below (h : RO w w' c2 c4 v6 v7 v8 us H T) (hb : Below w'.heap.size w' w'') : RO w w'' c2 c4 v6 v7 v8 us H T := ⟨h.u.below hb, h.h.below hb, h.t.below hb, h.k2.below hb, h.k4.below hb, h.b.trans (hb.mono h.b.size)⟩
theorem RO.push {v' x : Value} {xs : List W8} (h : RO w w' c2 c4 v6 v7 v8 us H T) (hR : Rw w'' w.heap.size 29 v' (us.map (·.1) ++ [x])) (M : Mod (fun k => v8.ownBlock = some k) w' w'') (hO : Ow w' w.heap.size x xs) : RO w w'' c2 c4 v6 v7 v' (us ++ [(x, xs)]) H T :=
  ⟨h.u.push hR M hO, h.h.apart h.u.1 (by decide) M, h.t.apart h.u.1 (by decide) M, h.k2.apart h.u.1 (by decide) M, h.k4.apart h.u.1 (by decide) M, h.b.trans (M.below h.b.size (fun k hk e => by have := (h.u.1.lt k e).1; omega))⟩
theorem RO.setH {g n cap : Nat} (h : RO w w' c2 c4 (.slice (some ⟨g, 0, none⟩) n cap) v7 v8 us H T) (hn : n = H.length) (i : Nat) (q : Bool) : RO w (w'.setCell ⟨g, i, none⟩ (.bool q)) c2 c4 (.slice (some ⟨g, 0, none⟩) n cap) v7 v8 us (H.set i q) T := by
  obtain ⟨cs, hb⟩ := h.h.kind (k := g) rfl
  have hg := (h.h.lt g rfl).1
  refine ⟨h.u.set_other hb (by decide) (by decide), ?_, h.t.set_other hb (by decide), h.k2.other (fun e => ?_) _, h.k4.other (fun e => ?_) _, h.b.setCell hg _⟩
  · rw [List.map_set]
    exact h.h.set (by rw [List.length_map]; exact hn) i _
  · have e : g = w.heap.size := e
    rw [e] at hb
    exact absurd (Blk.inj hb h.k2).2 (by decide)
  · have e : g = w.heap.size + 1 := e
    rw [e] at hb
    exact absurd (Blk.inj hb h.k4).2 (by decide)
theorem RO.setT {g n cap : Nat} (h : RO w w' c2 c4 v6 (.slice (some ⟨g, 0, none⟩) n cap) v8 us H T) (hn : n = T.length) (i : Nat) (q : Nat) : RO w (w'.setCell ⟨g, i, none⟩ (.int .u64 (q : Int))) c2 c4 v6 (.slice (some ⟨g, 0, none⟩) n cap) v8 us H (T.set i q) := by
  obtain ⟨cs, hb⟩ := h.t.kind (k := g) rfl
  have hg := (h.t.lt g rfl).1
  refine ⟨h.u.set_other hb (by decide) (by decide), h.h.set_other hb (by decide), ?_, h.k2.other (fun e => ?_) _, h.k4.other (fun e => ?_) _, h.b.setCell hg _⟩
  · rw [List.map_set]
    exact h.t.set (by rw [List.length_map]; exact hn) i _
  · have e : g = w.heap.size := e
    rw [e] at hb
    exact absurd (Blk.inj hb h.k2).2 (by decide)
  · have e : g = w.heap.size + 1 := e
    rw [e] at hb
    exact absurd (Blk.inj hb h.k4).2 (by decide)
theorem RO.cellH (h : RO w w' c2 c4 v6 v7 v8 us H T) {i : Nat} (hi : i < H.length) : ∃ g cap, v6 = .slice (some ⟨g, 0, none⟩) H.length cap ∧ H.length ≤ cap ∧ w'.cell? ⟨g, i, none⟩ = some (.bool (H.getD i false)) := by
  obtain ⟨g, cap, e, hc, h1⟩ := Rw.cell h.h (i := i) (by rw [List.length_map]; exact hi)
  rw [List.length_map] at e hc
  refine ⟨g, cap, e, hc, ?_⟩
  rw [h1, List.getElem_map, List.getD_eq_getElem?_getD, List.getElem?_eq_getElem hi]; rfl
theorem RO.cellT (h : RO w w' c2 c4 v6 v7 v8 us H T) {i : Nat} (hi : i < T.length) : ∃ g cap, v7 = .slice (some ⟨g, 0, none⟩) T.length cap ∧ T.length ≤ cap ∧ w'.cell? ⟨g, i, none⟩ = some (.int .u64 ((T.getD i 0 : Nat) : Int)) := by
  obtain ⟨g, cap, e, hc, h1⟩ := Rw.cell h.t (i := i) (by rw [List.length_map]; exact hi)
  rw [List.length_map] at e hc
  refine ⟨g, cap, e, hc, ?_⟩
  rw [h1, List.getElem_map, List.getD_eq_getElem?_getD, List.getElem?_eq_getElem hi]; rfl
end
end Go.Proofs.Ytkehejkjifgieaa

/- The document's Out. -/
namespace Go.Proofs.Ytkehejkjifgieaa
open Go.RowKit Go.ChangeMaps

set_option maxRecDepth 100000 in
set_option maxHeartbeats 4000000 in
theorem routm_c {w : World} {base b : Nat} {vL vH vT : Value} {L : List (List W8)} {H : List Bool} {T : List Nat} (h : DS w base vL vH vT L H T) (hL : L.length ≤ 1000) (hH : H.length = L.length) (hT : T.length = L.length) (h5 : ∀ m ∈ L, m.length ≤ 500) (hb : b ≤ L.length) (now : Nat) (hn : now < 18446744073709551616) :
    Calls Try.prog 31 #[.agg (dsV vL vH vT b), .int .u64 (now : Int)] w fun e w' => (∃ vH' vT' v us, e = .returned (.tuple #[.agg (dsV vL vH' vT' b), v]) ∧ Us w' w.heap.size v us ∧ us.map (·.2) = (outR now L 8 b H T).1 ∧
      Rw w' w.heap.size 4 vH' ((outR now L 8 b H T).2.1.map (fun q => .bool q)) ∧ Rw w' w.heap.size 31 vT' ((outR now L 8 b H T).2.2.map (fun (n : Nat) => Value.int .u64 (n : Int)))) ∧ Below w.heap.size w w' := by
  unfold dsV
  obtain ⟨pL, cL, eL⟩ := h.l.slice
  subst eL
  obtain ⟨pH, cH, eH⟩ := h.h.slice
  subst eH
  obtain ⟨pT, cT, eT⟩ := h.t.slice
  subst eT
  rw [List.length_map] at h
  rw [List.length_map] at h
  rw [List.length_map, List.length_map]
  rw [hH] at h ⊢
  rw [hT] at h ⊢
  have DH := hid h
  have H5 := hid h5
  obtain ⟨n, hn'⟩ : ∃ n, n = L.length := ⟨_, rfl⟩
  have HN := hid hn'
  rw [← hn'] at hL hb DH hH hT ⊢
  have HH := hid hH
  have HT := hid hT
  have HNOW := hid hn
  obtain ⟨r, hr⟩ : ∃ r, r = outR now L 8 b H T := ⟨_, rfl⟩
  rw [← hr]
  have HR := hid hr
  clear h h5 hn' hH hT hr
  have hz : ∀ W : World, (zeroValue 44).run Try.prog W = .ok (.agg #[.slice none 0 0, .int .i64 0, .slice none 0 0, .slice none 0 0]) W := fun _ => rfl
  go_enter Try.func31, Try.ntmps31
  go_upto_region 1 with fail
  obtain ⟨wA, hwA⟩ : ∃ wA, wA = (w.alloc (.cells #[.slice pL n cL, .int .i64 (b : Int), .slice pH n cH, .slice pT n cT] 44)).alloc (.cells #[.slice none 0 0, .int .i64 0, .slice none 0 0, .slice none 0 0] 44) := ⟨_, rfl⟩
  have BA := hid (show Below w.heap.size w wA by rw [hwA]; exact ((Below.refl _ _).alloc (Nat.le_refl _) _).alloc (by simp) _)
  have K2 := hid (show Blk wA w.heap.size #[.slice pL n cL, .int .i64 (b : Int), .slice pH n cH, .slice pT n cT] 44 by rw [hwA]; exact (Blk.new w _ _).alloc _)
  have K4 := hid (show Blk wA (w.heap.size + 1) #[.slice none 0 0, .int .i64 0, .slice none 0 0, .slice none 0 0] 44 by rw [hwA]; have := Blk.new (w.alloc (.cells #[.slice pL n cL, .int .i64 (b : Int), .slice pH n cH, .slice pT n cT] 44)) #[.slice none 0 0, .int .i64 0, .slice none 0 0, .slice none 0 0] 44; simpa using this)
  have hsz := hid (show w.heap.size + 1 < wA.heap.size from K4.out.lt)
  have DA := hid (DH.out.below BA.out)
  rw [← hwA]
  clear hwA
  have c05 : wA.cell? ⟨w.heap.size, 2, none⟩ = some (.slice pH n cH) := K2.out.cellv rfl
  have hl5 : w.heap.size < wA.heap.size := K2.out.lt
  have E5 := hid (Rw.empty (Blk.new wA #[] 4) (show w.heap.size ≤ wA.heap.size by omega))
  have A5 := hid ((Below.refl wA.heap.size wA).alloc (Nat.le_refl _) (.cells #[] 4))
  have F5 := hid (Rw.empty (Blk.new wA #[] 4) (Nat.le_refl wA.heap.size))
  go_upto_region 2 with (at_builtin; refine wpList_rows rfl (.tmp 11) (.tmp 13) 41 4 rfl Try.underlying41 info_bool rfl (by decide) rfl rfl F5.out (DA.out.below A5.out).h (fun u hu => by obtain ⟨l, _, rfl⟩ := List.mem_map.1 hu; rfl) (by rw [List.length_map]; have := HH.out; simp only [List.length_nil]; omega) (by simp) ?_; intro va5 w5 R N o; have R5 := hid R; have N5 := hid N; clear R N o)
  have R5 : Hid (Rw w5 wA.heap.size 4 va5 (H.map (fun q => (Value.bool q)))) := R5
  have B5 := hid (F5.out.mod_below N5.out A5.out (Nat.le_refl _))
  have K25 := hid (K2.out.below B5.out)
  have K45 := hid (K4.out.below B5.out)
  have DB5 := hid (DA.out.below B5.out)
  clear c05 hl5 E5 A5 F5 N5
  have c07 : w5.cell? ⟨w.heap.size, 3, none⟩ = some (.slice pT n cT) := K25.out.cellv rfl
  have hl7 : w.heap.size < w5.heap.size := K25.out.lt
  have A7 := hid ((Below.refl w5.heap.size w5).alloc (Nat.le_refl _) (.cells #[] 31))
  have F7 := hid (Rw.empty (Blk.new w5 #[] 31) (Nat.le_refl w5.heap.size))
  go_upto_region 3 with (at_builtin; refine wpList_rows rfl (.tmp 15) (.tmp 17) 42 31 rfl Try.underlying42 info_u64 rfl (by decide) rfl rfl F7.out (DB5.out.below A7.out).t (fun u hu => by obtain ⟨l, _, rfl⟩ := List.mem_map.1 hu; rfl) (by rw [List.length_map]; have := HT.out; simp only [List.length_nil]; omega) (by simp) ?_; intro va7 w7 R N o; have R7 := hid R; have N7 := hid N; clear R N o)
  have R7 : Hid (Rw w7 w5.heap.size 31 va7 (T.map (fun (n : Nat) => Value.int .u64 (n : Int)))) := R7
  have B7 := hid (F7.out.mod_below N7.out A7.out (Nat.le_refl _))
  have K27 := hid (K25.out.below B7.out)
  have K47 := hid (K45.out.below B7.out)
  have R57 := hid (R5.out.below B7.out)
  clear c07 hl7 A7 F7 N7 K25 K45 R5
  have BE := hid (show Below w.heap.size w w7 from ((BA.out.trans (B5.out.mono (by have := hsz.out; omega))).trans (B7.out.mono (by have := hsz.out; have := B5.out.size; omega))))
  have A8 := hid ((Below.refl w7.heap.size w7).alloc (Nat.le_refl _) (.cells #[] 29))
  have F8 := hid (Rw.empty (Blk.new w7 #[] 29) (BE.out.size))
  have R8 := hid (show RO w (w7.alloc (.cells #[] 29)) #[.slice pL n cL, .int .i64 (b : Int), .slice pH n cH, .slice pT n cT] #[.slice none 0 0, .int .i64 0, .slice none 0 0, .slice none 0 0] va5 va7 (.slice (some ⟨w7.heap.size, 0, none⟩) 0 0) [] H T from
    ⟨⟨F8.out, fun p hp => by cases hp⟩, (R57.out.low' (by have := hsz.out; omega)).alloc _, (R7.out.low' (by have := hsz.out; have := B5.out.size; omega)).alloc _, K27.out.alloc _, K47.out.alloc _, BE.out.alloc BE.out.size _⟩)
  clear K27 K47 R57 R7 A8 F8 BE DB5 DA BA B5 B7 hsz K2 K4
  obtain ⟨lt, hlt⟩ : ∃ lt, lt = laterN now := ⟨_, rfl⟩
  have HLT := hid hlt
  clear hlt
  obtain ⟨wv, hwv⟩ : ∃ wv : Int, wv = IntKind.u64.wrap ((now : Int) + 10) := ⟨_, rfl⟩
  have hwv' := hwv.symm
  have HWV := hid (show (18446744073709551605 < now ∧ wv = (now : Int) + 10 - 18446744073709551616) ∨ (¬ 18446744073709551605 < now ∧ wv = (now : Int) + 10) by
    rw [hwv]
    simp [IntKind.wrap, IntKind.bits, IntKind.signed]
    omega)
  clear hwv
  go_upto_if 24 with (fail)
  clear hwv'
  obtain ⟨w8, hw8⟩ : ∃ w8, w8 = w7.alloc (.cells #[] 29) := ⟨_, rfl⟩
  obtain ⟨g8, hg8⟩ : ∃ g8, g8 = w7.heap.size := ⟨_, rfl⟩
  rw [← hw8, ← hg8] at R8
  rw [← hw8, ← hg8]
  clear hw8 hg8 hn
  go_cut [9] from 24 to 24 (fun v9 wr => v9 = .int .u64 (lt : Int) ∧ wr = w8)
  case first =>
    unfold laterN at HLT
    rcases HWV.out with ⟨h1, h2⟩ | ⟨h1, h2⟩
    · have hi : wv < (now : Int) := by omega
      have h3 := HLT.out.trans (if_pos h1)
      subst h3
      clear h2
      go_wp2
      go_meet
      case rel => exact ⟨rfl, rfl⟩
    · have hi : ¬ wv < (now : Int) := by omega
      have h3 := HLT.out.trans (if_neg h1)
      subst h3
      have h4 : wv = ((now + 10 : Nat) : Int) := by omega
      subst h4
      go_wp2
      go_meet
      case rel => exact ⟨rfl, rfl⟩
  case rest =>
    obtain ⟨rfl, rfl⟩ := hcut
    clear HWV
    obtain ⟨p6, c6, e6⟩ := R8.out.h.slice
    rw [List.length_map, HH.out] at e6
    subst e6
    obtain ⟨p7, c7, e7⟩ := R8.out.t.slice
    rw [List.length_map, HT.out] at e7
    subst e7
    have c21 : wc.cell? ⟨w.heap.size, 1, none⟩ = some (.int .i64 (b : Int)) := R8.out.k2.cellv rfl
    have hl2 : w.heap.size < wc.heap.size := R8.out.k2.lt
    go_upto_region 8 with fail
    clear c21 hl2
    go_loopg [8, 10] 8 (fun g v8 v10 wr => ∃ (k : Nat) (us : List (Value × List W8)) (H' : List Bool) (T' : List Nat), v10 = .int .i64 (((b + k : Nat)) : Int) ∧ g = 8 - k ∧ k ≤ 8 ∧ b + k ≤ n + 8 ∧ Hid (us.length ≤ k) ∧ Hid (H'.length = n) ∧ Hid (T'.length = n) ∧ Hid (RO w wr #[.slice pL n cL, .int .i64 (b : Int), .slice pH n cH, .slice pT n cT] #[.slice none 0 0, .int .i64 0, .slice none 0 0, .slice none 0 0] (.slice p6 n c6) (.slice p7 n c7) v8 us H' T') ∧
      Hid (r = (us.map (·.2) ++ (outR now L (8 - k) (b + k) H' T').1, (outR now L (8 - k) (b + k) H' T').2)))
    case atStart => exact ⟨0, [], H, T, rfl, rfl, Nat.zero_le _, by omega, hid (Nat.le_refl _), HH, HT, R8, hid HR.out⟩
    case round =>
      obtain ⟨k, us, H', T', rfl, hg, hk, hbk, UL, HL', TL', RR8, RK⟩ := hrel
      have c20 : wr.cell? ⟨w.heap.size, 0, none⟩ = some (.slice pL n cL) := RR8.out.k2.cellv rfl
      have c21 : wr.cell? ⟨w.heap.size, 1, none⟩ = some (.int .i64 (b : Int)) := RR8.out.k2.cellv rfl
      have hl2 : w.heap.size < wr.heap.size := RR8.out.k2.lt
      obtain ⟨i, hi⟩ : ∃ i, i = b + k := ⟨_, rfl⟩
      have HI := hid hi
      rw [← hi] at hbk RK ⊢
      by_cases hgo : k < 8 ∧ i < n
      · obtain ⟨hk8, hin⟩ := hgo
        have hi8 : (i : Int) < (b : Int) + 8 := by omega
        have hini : (i : Int) < (n : Int) := by omega
        have hiH := hid (show i < H'.length by rw [HL'.out]; exact hin)
        have hiT := hid (show i < T'.length by rw [TL'.out]; exact hin)
        obtain ⟨g6, c6', e6, hc6, cellH⟩ := RR8.out.cellH hiH.out
        rw [HL'.out] at e6
        cases e6
        obtain ⟨g7, c7', e7, hc7, cellT⟩ := RR8.out.cellT hiT.out
        rw [TL'.out] at e7
        cases e7
        rw [HL'.out] at hc6
        rw [TL'.out] at hc7
        have hg6 := (RR8.out.h.lt g6 rfl).2
        have hg7 := (RR8.out.t.lt g7 rfl).2
        have hiL := hid (show i < L.length by rw [← HN.out]; exact hin)
        have ROW := hid (DH.out.l.below RR8.out.b)
        obtain ⟨gL, cL', eL, hcL, cellL⟩ := ROW.out.cell hiL.out
        rw [← HN.out] at eL hcL
        cases eL
        have hgL := (ROW.out.lt gL rfl).2
        obtain ⟨x, hx⟩ : ∃ x, x = L.getD i [] := ⟨_, rfl⟩
        have hx5 := hid (show x.length ≤ 500 from by
          have hm : x ∈ L := by rw [hx, List.getD_eq_getElem?_getD, List.getElem?_eq_getElem hiL.out]; exact List.getElem_mem _
          exact H5.out x hm)
        obtain ⟨hh, hhe⟩ : ∃ hh, hh = H'.getD i false := ⟨_, rfl⟩
        obtain ⟨tt, hte⟩ : ∃ tt, tt = T'.getD i 0 := ⟨_, rfl⟩
        rw [← hx] at cellL
        rw [← hhe] at cellH
        rw [← hte] at cellT
        obtain ⟨f, hf⟩ : ∃ f, 8 - k = f + 1 := ⟨7 - k, by omega⟩
        have HF := hid (show 8 - (k + 1) = f by omega)
        have HI1 := hid (show i + 1 = b + (k + 1) by omega)
        have HB1 := hid (show b + (k + 1) ≤ n + 8 by omega)
        have HK1 := hid (show k + 1 ≤ 8 by omega)
        by_cases hw : hh = true ∧ now < tt
        · obtain ⟨hht, htt⟩ := hw
          have RK' := hid (show r = (us.map (·.2) ++ (outR now L f (i + 1) H' T').1, (outR now L f (i + 1) H' T').2) by
            rw [RK.out, hf, outR_skip hiL.out (hhe.symm.trans hht) (by rw [← hte]; exact htt)])
          subst hht
          have htti : (now : Int) < (tt : Int) := by omega
          clear hhe hte hx hi hf
          go_wp2
          go_roundg (8 - (k + 1))
          case measure => omega
          case rel => exact ⟨k + 1, us, H', T', by rw [← HI1.out]; go_num, rfl, HK1.out, HB1.out, hid (by have := UL.out; omega), HL', TL', RR8, hid (by rw [HF.out, ← HI1.out]; exact RK'.out)⟩
        · have RK' := hid (show r = (us.map (·.2) ++ (dataB i x :: (outR now L f (i + 1) (H'.set i true) (T'.set i lt)).1), (outR now L f (i + 1) (H'.set i true) (T'.set i lt)).2) by
            rw [RK.out, hf, outR_send hiL.out (by rw [← hhe, ← hte]; exact hw), ← hx, ← HLT.out])
          have hsend : hh = false ∨ (hh = true ∧ ¬ (now : Int) < (tt : Int)) := by
            cases hh with
            | false => exact Or.inl rfl
            | true => exact Or.inr ⟨rfl, fun h => hw ⟨rfl, by omega⟩⟩
          have hcd := hid (show (i : Int) % 4294967296 = (i : Int) by omega)
          clear hhe hte hx hi hf hw
          rcases hsend with rfl | ⟨rfl, htti⟩
          all_goals
            go_upto_region 12 with (first
              | (go_at_call 35; refine (rdata_c _ _ i hcd.out x (by have := hx5.out; omega)).mono ?_; rintro e w2 ⟨v2, rfl, O2, hb2⟩; obtain ⟨pd, cd, rfl⟩ := O2.slice; have P2 := hid O2; have B2 := hid hb2; clear O2 hb2)
              | (at_builtin; refine wpList_push rfl (.tmp 53) (.tmp 61) 22 29 rfl Try.underlying22 info_slice rfl (by decide) rfl rfl ((RR8.out.below B2.out).u.1.alloc _) ((Blk.new _ _ _).cellv rfl) rfl (by rw [List.length_map]; have := UL.out; omega) (by have := RR8.out.b.size; have := B2.out.size; simp; omega) ?_; intro v5 w5 R5 M5 o5; have P5 := hid R5; have N5 := hid M5; clear R5 M5 o5))
            have A3 := hid ((Below.refl w2.heap.size w2).alloc (Nat.le_refl _) (.cells #[.slice pd (dataB i x).length cd] 29))
            have R3 := hid ((RR8.out.below B2.out).below A3.out)
            have R5 := hid (R3.out.push (xs := dataB i x) P5.out N5.out ((P2.out.lower (RR8.out.b.size)).below A3.out))
            clear P5 N5 A3 R3 P2 B2 cellH cellT c20 c21 hl2 hg6 hg7 hgL cellL
            have hiH' : i < H'.length := hiH.out
            have hg6 := (R5.out.h.lt g6 rfl).2
            have hg7 := (R5.out.t.lt g7 rfl).2
            obtain ⟨g6', c6'', e6, _, cellH⟩ := R5.out.cellH hiH.out
            rw [HL'.out] at e6
            cases e6
            obtain ⟨g7', c7'', e7, _, cellT⟩ := R5.out.cellT hiT.out
            rw [TL'.out] at e7
            cases e7
            have fH : w5.frozen? ⟨g6, i, none⟩ = false := R5.out.h.frozen (by rw [List.length_map]; exact HL'.out.symm) i
            have fT : w5.frozen? ⟨g7, i, none⟩ = false := R5.out.t.frozen (by rw [List.length_map]; exact TL'.out.symm) i
            obtain ⟨csH, bH⟩ := R5.out.h.kind (k := g6) rfl
            obtain ⟨csT, bT⟩ := R5.out.t.kind (k := g7) rfl
            have hne := bH.ne bT (by decide)
            have hne' := hne.symm
            have RS := hid ((R5.out.setH HL'.out.symm i true).setT TL'.out.symm i lt)
            clear bH bT
            obtain ⟨hq, hhq⟩ : ∃ hq, hq = H'.getD i false := ⟨_, rfl⟩
            obtain ⟨tq, htq⟩ : ∃ tq, tq = T'.getD i 0 := ⟨_, rfl⟩
            rw [← hhq] at cellH
            rw [← htq] at cellT
            clear hhq htq hiH'
            go_wp2
            go_roundg (8 - (k + 1))
            case measure => omega
            case rel => exact ⟨k + 1, _, H'.set i true, T'.set i lt, by rw [← HI1.out]; go_num, rfl, HK1.out, HB1.out, hid (by rw [List.length_append]; have := UL.out; simp; omega), hid (by rw [List.length_set]; exact HL'.out), hid (by rw [List.length_set]; exact TL'.out), RS, hid (by rw [HF.out, ← HI1.out, RK'.out]; simp)⟩
      · have RK' := hid (show r = (us.map (·.2), H', T') by
          rw [RK.out]
          by_cases hk8 : k < 8
          · rw [outR_end (by rw [← HN.out]; omega)]; simp
          · rw [show 8 - k = 0 by omega]
            show ((us.map (·.2)) ++ [], H', T') = _
            rw [List.append_nil])
        have hstop : ¬ (i : Int) < (b : Int) + 8 ∨ ((i : Int) < (b : Int) + 8 ∧ ¬ (i : Int) < (n : Int)) := by omega
        have c22 : wr.cell? ⟨w.heap.size, 2, none⟩ = some (.slice pH n cH) := RR8.out.k2.cellv rfl
        have c23 : wr.cell? ⟨w.heap.size, 3, none⟩ = some (.slice pT n cT) := RR8.out.k2.cellv rfl
        have f22 : wr.frozen? ⟨w.heap.size, 2, none⟩ = false := RR8.out.k2.frozen 2
        have f23 : wr.frozen? ⟨w.heap.size, 3, none⟩ = false := RR8.out.k2.frozen 3
        have KS := hid (show Blk ((wr.setCell ⟨w.heap.size, 2, none⟩ (.slice p6 n c6)).setCell ⟨w.heap.size, 3, none⟩ (.slice p7 n c7)) w.heap.size #[.slice pL n cL, .int .i64 (b : Int), .slice p6 n c6, .slice p7 n c7] 44 from (RR8.out.k2.set 2 _).set 3 _)
        have KT := hid (show Blk ((wr.setCell ⟨w.heap.size, 2, none⟩ (.slice p6 n c6)).setCell ⟨w.heap.size, 3, none⟩ (.slice p7 n c7)) (w.heap.size + 1) #[.slice none 0 0, .int .i64 0, .slice none 0 0, .slice none 0 0] 44 from (RR8.out.k4.other (by simp) _).other (by simp) _)
        obtain ⟨rk, hrk⟩ : ∃ rk : Nat, rk = b + k := ⟨_, rfl⟩
        clear hgo hrk
        rcases hstop with hst | ⟨hst, hst2⟩
        all_goals
          go_wp2_with (first | ((with_reducible refine at_op (.load 44 (.tmp 2)) rfl ?_); refine wpList_load_blk rfl 44 (.tmp 2) rfl w.heap.size rfl (cs := #[.slice pL n cL, .int .i64 (b : Int), .slice p6 n c6, .slice p7 n c7]) KS.out Try.underlying44 rfl (info44 _ _ _ _) ?_) | ((with_reducible refine at_op (.store 44 (.tmp 4) (.tmp 74)) rfl ?_); refine wpList_store_blk rfl 44 (.tmp 4) (.tmp 74) rfl (w.heap.size + 1) rfl rfl KT.out (info44 _ _ _ _) rfl (one4 rfl rfl rfl rfl) ?_))
          refine bodyPost_ret (results_cell2 rfl _ _ (w.heap.size + 1) _ _ rfl rfl (load_blk (KT.out.setRow _) Try.underlying44 rfl (info44 _ _ _ _))) rfl ?_
          have MS : Mod (fun k => k = w.heap.size ∨ k = w.heap.size + 1) wr (((wr.setCell ⟨w.heap.size, 2, none⟩ (.slice p6 n c6)).setCell ⟨w.heap.size, 3, none⟩ (.slice p7 n c7)).setRow (w.heap.size + 1) #[.slice pL n cL, .int .i64 (b : Int), .slice p6 n c6, .slice p7 n c7]) :=
            (((Mod.refl _ wr).setCell (p := ⟨w.heap.size, 2, none⟩) (fun _ => Or.inl rfl) _).setCell (p := ⟨w.heap.size, 3, none⟩) (fun _ => Or.inl rfl) _).trans ((Mod.setRow _ _ _).weaken (fun _ _ e => Or.inr e))
          have hK : ∀ k cs T, Blk wr k cs T → T ≠ 44 → ¬ (k = w.heap.size ∨ k = w.heap.size + 1) := fun k cs T hb hT e => by
            rcases e with rfl | rfl
            · exact hT (Blk.inj hb RR8.out.k2).2
            · exact hT (Blk.inj hb RR8.out.k4).2
          rw [RK'.out]
          refine ⟨⟨_, _, _, rfl, us, RR8.out.u.mod MS (fun k cs T hb hT => hK k cs T hb (by rcases hT with e | e <;> rw [e] <;> decide)), rfl, RR8.out.h.mod MS (fun k hk => ?_), RR8.out.t.mod MS (fun k hk => ?_)⟩, RR8.out.b.trans (MS.below RR8.out.b.size (fun k hk e => by omega))⟩
          · obtain ⟨cs, hb⟩ := RR8.out.h.kind hk
            exact hK k cs _ hb (by decide)
          · obtain ⟨cs, hb⟩ := RR8.out.t.kind hk
            exact hK k cs _ hb (by decide)
end Go.Proofs.Ytkehejkjifgieaa

/- The document's receiver: a value of 17 cells; Take's answer; the drawn region at its end. -/
namespace Go.Proofs.Ytkehejkjifgieaa
open Go.RowKit Go.ChangeMaps

def updF {α : Type} (f : Nat → α) (j : Nat) (v : α) : Nat → α := fun i => if i = j then v else f i
theorem updF_same {α : Type} (f : Nat → α) (j : Nat) (v : α) : updF f j v j = v := if_pos rfl
theorem updF_ne {α : Type} {f : Nat → α} {j i : Nat} {v : α} (h : i ≠ j) : updF f j v i = f i := if_neg h
def rcell (N : Nat) (H : Nat → Bool) (A : Nat → List W8) (j : Nat) : Value := if j = 0 then .int .i64 (N : Int) else if j < 9 then .bool (H (j - 1)) else .string (str (A (j - 9)))
/-- The document's receiver, as a value of 17 cells. -/
def rrV (N : Nat) (H : Nat → Bool) (A : Nat → List W8) : Array Value := arr 17 (rcell N H A)
theorem rrV_size (N : Nat) (H : Nat → Bool) (A : Nat → List W8) : (rrV N H A).size = 17 := arr_size _ _
theorem rrV_info (N : Nat) (H : Nat → Bool) (A : Nat → List W8) : (Try.prog.info? 48).map (·.size) = some (rrV N H A).size := by rw [rrV_size]; kernel_rfl
theorem rrV_one (N : Nat) (H : Nat → Bool) (A : Nat → List W8) : (rrV N H A).all (·.oneCell') = true := by
  rw [Array.all_eq_true_iff_forall_mem]
  intro x hx
  obtain ⟨i, hi, rfl⟩ := Array.getElem_of_mem hx
  have h := arr_get 17 (rcell N H A) (i := i) (by rw [rrV_size] at hi; exact hi)
  rw [show (rrV N H A)[i] = rcell N H A i from Option.some.inj ((Array.getElem?_eq_getElem hi).symm.trans h)]
  unfold rcell
  split
  · rfl
  · split <;> rfl
theorem rrV_n (N : Nat) (H : Nat → Bool) (A : Nat → List W8) : (rrV N H A)[0]? = some (.int .i64 (N : Int)) := arr_get 17 _ (by decide)
theorem rrV_h (N : Nat) (H : Nat → Bool) (A : Nat → List W8) {j : Nat} (hj : j < 8) : (rrV N H A)[1 + j]? = some (.bool (H j)) := by
  rw [show (rrV N H A)[1 + j]? = some (rcell N H A (1 + j)) from arr_get 17 _ (by omega)]
  unfold rcell
  rw [if_neg (by omega), if_pos (by omega), show 1 + j - 1 = j by omega]
theorem rrV_a (N : Nat) (H : Nat → Bool) (A : Nat → List W8) {j : Nat} (hj : j < 8) : (rrV N H A)[9 + j]? = some (.string (str (A j))) := by
  rw [show (rrV N H A)[9 + j]? = some (rcell N H A (9 + j)) from arr_get 17 _ (by omega)]
  unfold rcell
  rw [if_neg (by omega), if_neg (by omega), show 9 + j - 9 = j by omega]
theorem rrV_congr {N M : Nat} {H H' : Nat → Bool} {A A' : Nat → List W8} (hN : N = M) (hH : ∀ j, j < 8 → H j = H' j) (hA : ∀ j, j < 8 → A j = A' j) : rrV N H A = rrV M H' A' := by
  subst hN
  refine arr_congr (fun i hi => ?_)
  unfold rcell
  split
  · rfl
  · split
    · rw [hH _ (by omega)]
    · rw [hA _ (by omega)]
theorem arr_set {n : Nat} {f : Nat → Value} {i : Nat} {v : Value} : (arr n f).setIfInBounds i v = arr n (fun j => if j = i then v else f j) := by
  refine arr_ext (by rw [Array.size_setIfInBounds, arr_size]) (fun j hj => ?_)
  rw [Array.getElem?_setIfInBounds, arr_size]
  by_cases e : i = j
  · subst e; rw [if_pos rfl, if_pos hj, if_pos rfl]
  · rw [if_neg e, if_neg (Ne.symm e), arr_get n f hj]
theorem rrV_setN (N : Nat) (H : Nat → Bool) (A : Nat → List W8) (M : Nat) : (rrV N H A).setIfInBounds 0 (.int .i64 (M : Int)) = rrV M H A := by
  unfold rrV
  rw [arr_set]
  refine arr_congr (fun j hj => ?_)
  unfold rcell
  split <;> rfl
theorem rrV_setH (N : Nat) (H : Nat → Bool) (A : Nat → List W8) {i : Nat} (hi : i < 8) (q : Bool) : (rrV N H A).setIfInBounds (1 + i) (.bool q) = rrV N (updF H i q) A := by
  unfold rrV
  rw [arr_set]
  refine arr_congr (fun j hj => ?_)
  unfold rcell
  by_cases e : j = 1 + i
  · rw [if_pos e, if_neg (by omega), if_pos (by omega), show j - 1 = i by omega, updF_same]
  · rw [if_neg e]
    split
    · rfl
    · split
      · rw [updF_ne (by omega)]
      · rfl
theorem rrV_setA (N : Nat) (H : Nat → Bool) (A : Nat → List W8) {i : Nat} (hi : i < 8) (m : List W8) : (rrV N H A).setIfInBounds (9 + i) (.string (str m)) = rrV N H (updF A i m) := by
  unfold rrV
  rw [arr_set]
  refine arr_congr (fun j hj => ?_)
  unfold rcell
  by_cases e : j = 9 + i
  · rw [if_pos e, if_neg (by omega), if_neg (by omega), show j - 9 = i by omega, updF_same]
  · rw [if_neg e]
    split
    · rfl
    · split
      · rfl
      · rw [updF_ne (by omega)]
section
variable {w : World} {g N : Nat} {H : Nat → Bool} {A : Nat → List W8}
abbrev RB (w : World) (g N : Nat) (H : Nat → Bool) (A : Nat → List W8) : Prop := Blk w g (rrV N H A) 48
theorem RB.n (h : RB w g N H A) : w.cell? ⟨g, 0, none⟩ = some (.int .i64 (N : Int)) := Blk.cellv h (rrV_n N H A)
theorem RB.h (h : RB w g N H A) {j : Nat} (hj : j < 8) : w.cell? ⟨g, 1 + j, none⟩ = some (.bool (H j)) := Blk.cellv h (rrV_h N H A hj)
theorem RB.a (h : RB w g N H A) {j : Nat} (hj : j < 8) : w.cell? ⟨g, 9 + j, none⟩ = some (.string (str (A j))) := Blk.cellv h (rrV_a N H A hj)
theorem RB.setN (h : RB w g N H A) (M : Nat) : RB (w.setCell ⟨g, 0, none⟩ (.int .i64 (M : Int))) g M H A := by
  have := Blk.set h 0 (.int .i64 (M : Int))
  rwa [rrV_setN] at this
theorem RB.setH (h : RB w g N H A) {i : Nat} (hi : i < 8) (q : Bool) : RB (w.setCell ⟨g, 1 + i, none⟩ (.bool q)) g N (updF H i q) A := by
  have := Blk.set h (1 + i) (.bool q)
  rwa [rrV_setH N H A hi] at this
theorem RB.setA (h : RB w g N H A) {i : Nat} (hi : i < 8) (m : List W8) : RB (w.setCell ⟨g, 9 + i, none⟩ (.string (str m))) g N H (updF A i m) := by
  have := Blk.set h (9 + i) (.string (str m))
  rwa [rrV_setA N H A hi] at this
end
set_option maxRecDepth 100000 in
theorem rrV_zero (W : World) : (zeroValue 48).run Try.prog W = .ok (.agg (rrV 0 (fun _ => false) (fun _ => []))) W := by rfl
/-- Is a message at a place taken? -/
def takes (N p : Nat) (H : Nat → Bool) : Bool := decide (N ≤ p ∧ p < N + 8 ∧ H (p - N) = false)
def takeRH (N p : Nat) (H : Nat → Bool) : Nat → Bool := if takes N p H = true then updF H (p - N) true else H
def takeRA (N p : Nat) (m : List W8) (H : Nat → Bool) (A : Nat → List W8) : Nat → List W8 := if takes N p H = true then updF A (p - N) m else A
/-- All that are next. -/
def drain : Nat → Nat → (Nat → Bool) → (Nat → List W8) → List (List W8) × Nat × (Nat → Bool) × (Nat → List W8)
  | 0, N, H, A => ([], N, H, A)
  | f + 1, N, H, A => if H 0 = true then (A 0 :: (drain f (N + 1) (fun j => H (j + 1)) (fun j => A (j + 1))).1, (drain f (N + 1) (fun j => H (j + 1)) (fun j => A (j + 1))).2) else ([], N, H, A)
theorem drain_none {f N : Nat} {H : Nat → Bool} {A : Nat → List W8} (h : H 0 = false) : drain f N H A = ([], N, H, A) := by
  cases f with
  | zero => rfl
  | succ f => exact if_neg (by rw [h]; decide)
theorem drain_some {f N : Nat} {H : Nat → Bool} {A : Nat → List W8} (h : H 0 = true) : drain (f + 1) N H A = (A 0 :: (drain f (N + 1) (fun j => H (j + 1)) (fun j => A (j + 1))).1, (drain f (N + 1) (fun j => H (j + 1)) (fun j => A (j + 1))).2) := if_pos h
/-- The first i of a row moved down by one. -/
def shI {α : Type} (i : Nat) (f : Nat → α) : Nat → α := fun j => if j < i then f (j + 1) else f j
theorem shI_zero {α : Type} (f : Nat → α) : shI 0 f = f := funext fun j => if_neg (by omega)
theorem shI_step {α : Type} (i : Nat) (f : Nat → α) : updF (shI i f) i (f (i + 1)) = shI (i + 1) f := funext fun j => by
  unfold updF shI
  by_cases e : j = i
  · rw [if_pos e, if_pos (by omega), e]
  · rw [if_neg e]
    by_cases h : j < i
    · rw [if_pos h, if_pos (by omega)]
    · rw [if_neg h, if_neg (by omega)]
theorem shI_at {α : Type} (i : Nat) (f : Nat → α) : shI i f (i + 1) = f (i + 1) := if_neg (by omega)
theorem results_cell_tmp3 {fn : Func} {p u u2 u3 : Tmp} {ty : TypeId} (h : fn.results = #[.cell p ty, .tmp u, .tmp u2, .tmp u3]) (tmps : Array Value) (P : Program) (w : World) :
    (results fn tmps).run P w =
      ((asAddr (tmps.getD p undef)).run P w).andThen fun a w1 => ((loadVar ty a).run P w1).andThen fun v w2 => .ok (.tuple #[v, tmps.getD u undef, tmps.getD u2 undef, tmps.getD u3 undef]) w2 := by
  simp only [results, h]
  simp [Sem.run_bind, Result.andThen]
theorem results_cell4 {fn : Func} {p u u2 u3 : Tmp} {ty : TypeId} (h : fn.results = #[.cell p ty, .tmp u, .tmp u2, .tmp u3]) (tmps : Array Value) (w : World) (g : Nat) (cs : Array Value) (v1 v2 v3 : Value)
    (hp : tmps.getD p undef = .pointer (some ⟨g, 0, none⟩)) (h1 : tmps.getD u undef = v1) (h2 : tmps.getD u2 undef = v2) (h3 : tmps.getD u3 undef = v3) (hl : (loadVar ty ⟨g, 0, none⟩).run Try.prog w = .ok (.agg cs) w) :
    (results fn tmps).run Try.prog w = .ok (.tuple #[.agg cs, v1, v2, v3]) w := by
  rw [results_cell_tmp3 h, hp, h1, h2, h3]
  simp [asAddr, hl, Result.andThen]
/-- What stands in the drawn region at the end of Take. -/
structure AckI (wr : World) (g2 g4 : Nat) (cs z : Array Value) (v15 : Value) (N : Nat) (L : Nat → Bool) (V : Nat → Value) (W : World) : Prop where
  mod : Mod (fun k => k = g4) wr W
  k4 : ∃ c, Blk W g4 c 48 ∧ c.size = 17 ∧ (L 5 = true → c = cs)
  v0 : L 0 = true → V 0 = .agg cs
  v1 : L 1 = true → V 1 = v15
  v2 : L 2 = true → V 2 = .pointer (some ⟨g2, 0, none⟩)
  v3 : L 3 = true → V 3 = .int .i64 (N : Int)
  v4 : L 4 = true → Ow W wr.heap.size (V 4) (ackB N)
  v6 : L 6 = true → V 6 = v15
  v7 : L 7 = true → Ow W wr.heap.size (V 7) (ackB N)
  v8 : L 8 = true → V 8 = .int .i64 0
section
variable {wr W : World} {g2 g4 : Nat} {cs z : Array Value} {v15 : Value} {N : Nat} {L : Nat → Bool} {V : Nat → Value}
def ackV (wr : World) (g2 : Nat) (cs : Array Value) (v15 : Value) (N : Nat) (k : Nat) (v : Value) (W : World) : Prop :=
  match k with
  | 0 => v = .agg cs
  | 1 => v = v15
  | 2 => v = .pointer (some ⟨g2, 0, none⟩)
  | 3 => v = .int .i64 (N : Int)
  | 4 => Ow W wr.heap.size v (ackB N)
  | 5 => True
  | 6 => v = v15
  | 7 => Ow W wr.heap.size v (ackB N)
  | _ => v = .int .i64 0
theorem AckI.all (h : AckI wr g2 g4 cs z v15 N L V W) {k : Nat} (hk : L k = true) (h9 : k < 9) : ackV wr g2 cs v15 N k (V k) W := by
  match k, hk, h9 with
  | 0, hk, _ => exact h.v0 hk
  | 1, hk, _ => exact h.v1 hk
  | 2, hk, _ => exact h.v2 hk
  | 3, hk, _ => exact h.v3 hk
  | 4, hk, _ => exact h.v4 hk
  | 5, _, _ => exact trivial
  | 6, hk, _ => exact h.v6 hk
  | 7, hk, _ => exact h.v7 hk
  | 8, hk, _ => exact h.v8 hk
  | k + 9, _, h9 => omega
theorem AckI.mk' (hm : Mod (fun k => k = g4) wr W) (h4 : ∃ c, Blk W g4 c 48 ∧ c.size = 17 ∧ (L 5 = true → c = cs)) (hv : ∀ k, k < 9 → L k = true → ackV wr g2 cs v15 N k (V k) W) : AckI wr g2 g4 cs z v15 N L V W :=
  ⟨hm, h4, hv 0 (by decide), hv 1 (by decide), hv 2 (by decide), hv 3 (by decide), hv 4 (by decide), hv 6 (by decide), hv 7 (by decide), hv 8 (by decide)⟩
theorem ackV.below {k : Nat} {v : Value} {W' : World} (h : ackV wr g2 cs v15 N k v W) (hb : Below W.heap.size W W') : ackV wr g2 cs v15 N k v W' := by
  unfold ackV at h ⊢
  split at h <;> first | exact h | exact Ow.below h hb
theorem AckI.val (h : AckI wr g2 g4 cs z v15 N L V W) {k : Nat} {v : Value} {W' : World} (h5 : k ≠ 5) (hb : Below W.heap.size W W') (hv : ackV wr g2 cs v15 N k v W') : AckI wr g2 g4 cs z v15 N (updL L k) (updV V k v) W' := by
  obtain ⟨c, hc, hs, hl⟩ := h.k4
  refine AckI.mk' (h.mod.trans (Mod.of_below hb _)) ⟨c, hc.below hb, hs, fun e => hl (by rwa [updL_ne (Ne.symm h5)] at e)⟩ (fun j hj hl => ?_)
  by_cases e : j = k
  · rw [e, updV_same]; exact hv
  · rw [updV_ne e]
    rw [updL_ne e] at hl
    exact (h.all hl hj).below hb
theorem AckI.put (h : AckI wr g2 g4 cs z v15 N L V W) (hg : g4 < wr.heap.size) (hcs : cs.size = 17) : AckI wr g2 g4 cs z v15 N (updL L 5) (updV V 5 undef) (W.setRow g4 cs) := by
  obtain ⟨c, hc, hs, hl⟩ := h.k4
  refine AckI.mk' (h.mod.trans (Mod.setRow _ _ _)) ⟨cs, hc.setRow cs, hcs, fun _ => rfl⟩ (fun j hj hl => ?_)
  by_cases e : j = 5
  · subst e; exact trivial
  · rw [updV_ne e]
    rw [updL_ne e] at hl
    have hv := h.all hl hj
    have key : ∀ {v : Value} {ys : List W8}, Ow W wr.heap.size v ys → Ow (W.setRow g4 cs) wr.heap.size v ys := fun ho => ho.mod (Mod.setRow W g4 cs) (fun k hk e => by have := (ho.lt k hk).1; omega)
    unfold ackV at hv ⊢
    split at hv <;> first | exact hv | exact key hv
theorem AckI.start (h4 : Blk wr g4 z 48) (hz : z.size = 17) : AckI wr g2 g4 cs z v15 N (fun _ => false) (fun _ => undef) wr.drew :=
  AckI.mk' ((Mod.refl _ wr).drew) ⟨z, h4.drew, hz, fun e => by cases e⟩ (fun _ _ e => by cases e)
end
end Go.Proofs.Ytkehejkjifgieaa

/- The document's Take. -/
namespace Go.Proofs.Ytkehejkjifgieaa
open Go.RowKit Go.ChangeMaps

def RTk (w w' : World) (N : Nat) (H : Nat → Bool) (A : Nat → List W8) (xs : List W8) (e : Ending) : Prop :=
  (if (parseB xs).1 = 0 then ∃ vl va, e = .returned (.tuple #[.agg (rrV (drain 8 N (takeRH N (parseB xs).2.1 H) (takeRA N (parseB xs).2.1 (parseB xs).2.2 H A)).2.1 (drain 8 N (takeRH N (parseB xs).2.1 H) (takeRA N (parseB xs).2.1 (parseB xs).2.2 H A)).2.2.1 (drain 8 N (takeRH N (parseB xs).2.1 H) (takeRA N (parseB xs).2.1 (parseB xs).2.2 H A)).2.2.2), vl, va, .int .i64 0]) ∧
      Sr w' w.heap.size vl (drain 8 N (takeRH N (parseB xs).2.1 H) (takeRA N (parseB xs).2.1 (parseB xs).2.2 H A)).1 ∧ Ow w' w.heap.size va (ackB (drain 8 N (takeRH N (parseB xs).2.1 H) (takeRA N (parseB xs).2.1 (parseB xs).2.2 H A)).2.1)
    else e = .returned (.tuple #[.agg (rrV N H A), .slice none 0 0, .slice none 0 0, .int .i64 (parseB xs).1])) ∧ Below w.heap.size w w'
theorem RTk.no {w w' : World} {N : Nat} {H : Nat → Bool} {A : Nat → List W8} {xs : List W8} {c : Int} (h : (parseB xs).1 = c) (hc : c ≠ 0) (hb : Below w.heap.size w w') : RTk w w' N H A xs (.returned (.tuple #[.agg (rrV N H A), .slice none 0 0, .slice none 0 0, .int .i64 c])) := by
  subst h
  exact ⟨by rw [if_neg hc], hb⟩
theorem RB.congr {w : World} {g N M : Nat} {H H' : Nat → Bool} {A A' : Nat → List W8} (h : RB w g N H A) (e : rrV N H A = rrV M H' A') : RB w g M H' A' := by
  unfold RB at *
  rw [← e]
  exact h
theorem run_load_blk {ρ : Operand → Value} {o : Oper} {x : Operand} {g : Nat} {cs : Array Value} {w : World} {T ty : TypeId} {d : TypeDesc} (ho : o.op = .load ty x) (hx : ρ x = .pointer (some ⟨g, 0, none⟩)) (hB : Blk w g cs T) (hu : Try.prog.underlying ty = some d) (hd : d.isRow = true) (hi : (Try.prog.info? ty).map (·.size) = some cs.size) :
    (execOp ρ o).run Try.prog w = .ok (.value (.agg cs)) w := by
  unfold execOp
  simp only [ho, hx, Instr.loadAt, Instr.sureAddr, Sem.run_bind, Sem.run_pure, Result.andThen_ok, load_blk hB hu hd hi]
theorem run_store_blk {ρ : Operand → Value} {o : Oper} {x y : Operand} {g : Nat} {cs old : Array Value} {w : World} {T ty : TypeId} (ho : o.op = .store ty x y) (hx : ρ x = .pointer (some ⟨g, 0, none⟩)) (hy : ρ y = .agg cs) (hB : Blk w g old T) (hi : (Try.prog.info? ty).map (·.size) = some cs.size) (hs : old.size = cs.size) (h1 : cs.all (·.oneCell') = true) :
    (execOp ρ o).run Try.prog w = .ok .skip (w.setRow g cs) := by
  unfold execOp
  simp only [ho, hx, hy, Instr.storeAt, Instr.sureAddr, Sem.run_bind, Sem.run_pure, Result.andThen_ok, run_storeVar_row w g T ty old cs hB hi hs h1]
theorem RTk.yes {w w' : World} {N pl : Nat} {H H1 : Nat → Bool} {A A1 : Nat → List W8} {xs m : List W8} {r : List (List W8) × Nat × (Nat → Bool) × (Nat → List W8)} {vl va : Value} (h : (parseB xs).1 = 0 ∧ (parseB xs).2.1 = pl ∧ (parseB xs).2.2 = m) (hH : H1 = takeRH N pl H) (hA : A1 = takeRA N pl m H A) (hr : r = drain 8 N H1 A1)
    (hs : Sr w' w.heap.size vl r.1) (ho : Ow w' w.heap.size va (ackB r.2.1)) (hb : Below w.heap.size w w') : RTk w w' N H A xs (.returned (.tuple #[.agg (rrV r.2.1 r.2.2.1 r.2.2.2), vl, va, .int .i64 0])) := by
  obtain ⟨h1, rfl, rfl⟩ := h
  subst hH hA hr
  exact ⟨by rw [if_pos h1]; exact ⟨vl, va, rfl, hs, ho⟩, hb⟩
theorem Bytes.rr {w : World} {v : Value} {xs : List W8} {g N : Nat} {H : Nat → Bool} {A : Nat → List W8} (hB : Bytes w v xs) (h : RB w g N H A) (j : Nat) (u : Value) : Bytes (w.setCell ⟨g, j, none⟩ u) v xs := by
  obtain ⟨p, cap, e, hq⟩ := hB
  refine ⟨p, cap, e, fun hl => ?_⟩
  obtain ⟨b, off, e1, h1, h2, h3, hS⟩ := hq hl
  have hne : b ≠ g := by
    rintro rfl
    have hc := hS 0 hl
    rw [Blk.cell h] at hc
    have hi : off + 0 < 17 := by
      have := (Array.getElem?_eq_some_iff.1 hc).1
      rwa [rrV_size] at this
    rw [show (rrV N H A)[off + 0]? = some (rcell N H A (off + 0)) from arr_get 17 _ hi] at hc
    unfold rcell at hc
    split at hc
    · cases hc
    · split at hc <;> cases hc
  refine ⟨b, off, e1, by simpa [World.setCell] using h1, h2, h3, fun i hi => ?_⟩
  rw [← hS i hi]
  have hh := Below.heap_setCell w ⟨g, j, none⟩ u b hne
  simp only [World.cell?, hh]
set_option maxRecDepth 100000 in
set_option maxHeartbeats 8000000 in
theorem rtakem_c {w : World} {N : Nat} {H : Nat → Bool} {A : Nat → List W8} {vb : Value} {xs : List W8} (hH8 : ∀ j, 8 ≤ j → H j = false) (hA8 : ∀ j, 8 ≤ j → A j = []) (hN : N ≤ 1000000) (hX : Bytes w vb xs) (hl : xs.length ≤ 90000) :
    Calls Try.prog 46 #[.agg (rrV N H A), vb] w fun e w' => RTk w w' N H A xs e := by
  obtain ⟨p, cap, hv, hq0⟩ := hX
  subst hv
  have hB : Bytes w (.slice p xs.length cap) xs := ⟨p, cap, rfl, hq0⟩
  clear hq0
  have hz := rrV_zero
  obtain ⟨w0, hw0⟩ : ∃ w0, w0 = (w.alloc (.cells (rrV N H A) 48)).alloc (.cells (rrV 0 (fun _ => false) (fun _ => [])) 48) := ⟨_, rfl⟩
  have HW0 := hid hw0
  have B0 := hid (show Below w.heap.size w w0 by rw [hw0]; exact ((Below.refl _ _).alloc (Nat.le_refl _) _).alloc (by simp) _)
  have K2 := hid (show Blk w0 w.heap.size (rrV N H A) 48 by rw [hw0]; exact (Blk.new w _ _).alloc _)
  have K4 := hid (show Blk w0 (w.heap.size + 1) (rrV 0 (fun _ => false) (fun _ => [])) 48 by rw [hw0]; have := Blk.new (w.alloc (.cells (rrV N H A) 48)) (rrV 0 (fun _ => false) (fun _ => [])) 48; simpa using this)
  have H8 := hid hH8
  have A8 := hid hA8
  have HNN := hid hN
  clear hw0 hH8 hA8 hN
  have CO := hid (ropen_c (hB.below B0.out) hl)
  unfold ansO at CO
  by_cases ho : opens xs
  · have HP := hid (show parseB xs = parseX (xs.take (xs.length - 4)) from if_pos ho)
    simp only [if_pos ho] at CO
    obtain ⟨q, hq⟩ : ∃ q, q = xs.length - 4 := ⟨_, rfl⟩
    have h5 := ho.1
    obtain ⟨ad, rfl⟩ : ∃ ad, p = some ad := by
      rcases bytes_nil_or hB with ⟨c, e, e2⟩ | ⟨ad, c, e⟩
      · rw [e2] at h5; simp at h5
      · cases e; exact ⟨ad, rfl⟩
    have hcap := (hB.len_le (by omega)).2
    have hX := hB.take' q (by omega)
    rw [← hq] at CO HP
    obtain ⟨x, hx⟩ : ∃ x, x = xs.take q := ⟨_, rfl⟩
    have hxl : x.length = q := by rw [hx, List.length_take]; omega
    rw [← hx] at hX HP
    have hqc : q ≤ cap := by omega
    have hq1 : 1 ≤ q := by omega
    have hql : q ≤ 100000 := by omega
    obtain ⟨g, off, e, hc0⟩ : ∃ g off, (some ad : Option Addr) = some ⟨g, off, none⟩ ∧ w.cell? ⟨g, off, none⟩ = some (.int .u8 (ub (x.getD 0 0))) ∧ g < w.heap.size := by
      obtain ⟨p', c', e', hh⟩ := hX
      cases e'
      obtain ⟨g, off, e1, e2, _, _, e3⟩ := hh (by omega)
      exact ⟨g, off, e1, by have := e3 0 (by omega); simpa using this, e2⟩
    cases e
    obtain ⟨hc0, hgl⟩ := hc0
    have HC := hid hc0; have HX := hid hX; have HG := hid hgl; have HL := hid hxl
    have hqi : (1 : Int) ≤ (q : Int) := by omega
    have hqi0 : (0 : Int) < (q : Int) := by omega
    clear hc0 hX hx hB ho hcap h5 hgl hxl hq
    have D1 := hid (show Bytes w (.slice (some (cutAt ⟨g, off, none⟩ cap 1)) (q - 1) (cap - 1)) (x.drop 1) from by
      have hh := HX.out
      have hxl := HL.out
      rw [← hxl] at hh ⊢
      exact hh.drop 1 (by omega))
    unfold parseX at HP
    obtain ⟨x0, hx0⟩ : ∃ x0, x0 = x.getD 0 0 := ⟨_, rfl⟩
    obtain ⟨y, hy⟩ : ∃ y, y = x.drop 1 := ⟨_, rfl⟩
    have hyl := hid (show y.length ≤ 100000 by rw [hy, List.length_drop]; have := HL.out; omega)
    obtain ⟨s, hs⟩ : ∃ s, s = takeStr 500 (y.drop 4) := ⟨_, rfl⟩
    rw [← hx0, ← hy, ← hs] at HP
    rw [← hx0] at HC
    rw [← hy] at D1
    have HS := hid hs
    clear hx0 hy hs
    go_enter Try.func46, Try.ntmps46
    go_upto_region 1 with fail
    rw [← HW0.out]
    clear HW0 hz
    go_upto_region 4 with (go_at_call 58; refine CO.out.mono ?_; rintro e w1 ⟨rfl, hb1⟩; have B01 := hid hb1; clear hb1)
    have B1 := hid (B0.out.trans (B01.out.mono B0.out.size))
    have K21 := hid (K2.out.below B01.out)
    have K41 := hid (K4.out.below B01.out)
    clear K2 K4 CO
    have c0 : w1.cell? ⟨g, off, none⟩ = some (.int .u8 (ub x0)) := (B1.out.cell HG.out).trans HC.out
    have D1' := hid (D1.out.below B1.out)
    by_cases h68 : x0 = 68
    · have e68 : ub x0 = 68 := by rw [h68]; rfl
      rw [e68] at c0
      have CT := hid (rtake32_c D1'.out hyl.out)
      by_cases h4 : 4 ≤ y.length
      · simp only [if_pos h4] at CT
        obtain ⟨zz, hzz⟩ : ∃ zz, zz = y.drop 4 := ⟨_, rfl⟩
        have hzl := hid (show zz.length ≤ 100000 by rw [hzz, List.length_drop]; have := hyl.out; omega)
        rw [← hzz] at CT HS
        clear hzz
        obtain ⟨pl, hpl⟩ : ∃ pl, pl = un32 y := ⟨_, rfl⟩
        have hpl4 : pl < 4294967296 := by rw [hpl]; exact un32_lt y
        rw [← hpl] at CT HP
        clear hpl
        go_upto_region 9 with (first
          | ((with_reducible refine at_op (.slice 29 (.tmp 32) (some (.const (.int .i64 1))) none none) rfl ?_); refine wpList_cut rfl (.tmp 32) (.const (.int .i64 1)) rfl (k := 1) rfl rfl rfl hq1 hqc ?_)
          | (go_at_call 59; refine CT.out.mono ?_; rintro e w2 ⟨⟨v2, rfl, O2⟩, hb2⟩; have P2 := hid (O2.below hb2); have B12 := hid hb2; clear O2 hb2))
        have B2 := hid (B1.out.trans (B12.out.mono B1.out.size))
        have K22 := hid (K21.out.below B12.out)
        have K42 := hid (K41.out.below B12.out)
        have D2 := hid (D1'.out.below B12.out)
        obtain ⟨p2, c2, rfl, _⟩ := P2.out
        have CTS := hid (rtakeString_k P2.out hzl.out 500 500 rfl (by decide) HS.out)
        go_upto_region 10 with (go_at_call 60; refine CTS.out.mono ?_; rintro e w3 ⟨⟨v3, v4, rfl, O3, O4⟩, hb3⟩; have P3 := hid O3; have P4 := hid O4; have B23 := hid hb3; clear O3 O4 hb3; obtain ⟨p4, c4, rfl, _⟩ := P4.out; obtain ⟨p3, c3, rfl, _⟩ := P3.out)
        have B3 := hid (B2.out.trans (B23.out.mono B2.out.size))
        have K23 := hid (K22.out.below B23.out)
        have K43 := hid (K42.out.below B23.out)
        clear CTS CT
        by_cases h0 : s.1 = 0
        · have e0 : (s.1 != 0) = false := by rw [h0]; rfl
          by_cases hr : s.2.2 = []
          · have er : ¬ (0 : Int) < (s.2.2.length : Int) := by rw [hr]; decide
            have HP' := hid (HP.out.trans (if_pos ⟨h68, h4, h0, hr⟩))
            have HM := hid (show (parseB xs).1 = 0 ∧ (parseB xs).2.1 = pl ∧ (parseB xs).2.2 = s.2.1 by rw [HP'.out]; exact ⟨rfl, rfl, rfl⟩)
            clear HP HP' HS P4 er P2 D2 HL HX HC D1 D1' c0 K21 K41 K22 K42 B12 B01 B23 hyl hzl h4
            go_upto_region 13 with fail
            clear h0 hr e0 h68 e68
            have A4 := hid ((Below.refl w3.heap.size w3).alloc (Nat.le_refl _) (.cells #[] 9))
            have T4 := hid (show Sr (w3.alloc (.cells #[] 9)) w.heap.size (.slice (some ⟨w3.heap.size, 0, none⟩) 0 0) [] from Rw.empty (Blk.new w3 #[] 9) B3.out.size)
            have B4 := hid (B3.out.alloc B3.out.size (.cells #[] 9))
            have K24 := hid (K23.out.below A4.out)
            have K44 := hid (K43.out.below A4.out)
            have P34 := hid (P3.out.below A4.out)
            obtain ⟨w4, hw4⟩ : ∃ w4, w4 = w3.alloc (.cells #[] 9) := ⟨_, rfl⟩
            obtain ⟨g15, hg15⟩ : ∃ g15, g15 = w3.heap.size := ⟨_, rfl⟩
            rw [← hw4] at T4 B4 K24 K44 P34
            rw [← hg15] at T4
            rw [← hw4, ← hg15]
            clear hw4 hg15 A4 K23 K43 P3 B1 B2 B3
            obtain ⟨cnd, hcnd⟩ : ∃ cnd, cnd = takes N pl H := ⟨_, rfl⟩
            have HCND := hid hcnd
            clear hcnd
            have hN := HNN.out
            have c20 : w4.cell? ⟨w.heap.size, 0, none⟩ = some (.int .i64 (N : Int)) := RB.n K24.out
            have hl4 : w.heap.size < w4.heap.size := K24.out.lt
            go_cut [81] from 56 to 80 (fun v81 wr => v81 = .bool cnd ∧ wr = w4)
            case first =>
              by_cases hc1 : N ≤ pl
              · have hc1i : (N : Int) ≤ (pl : Int) := by omega
                by_cases hc2 : pl < N + 8
                · have hc2i : (pl : Int) < (N : Int) + 8 := by omega
                  obtain ⟨d, hd⟩ : ∃ d, d = pl - N := ⟨_, rfl⟩
                  have hd8 : d < 8 := by omega
                  have hdi : (pl : Int) - (N : Int) = (d : Int) := by omega
                  have cH : w4.cell? ⟨w.heap.size, 1 + d, none⟩ = some (.bool (H d)) := RB.h K24.out hd8
                  have hcnd2 : cnd = !(H d) := by
                    rw [HCND.out]
                    unfold takes
                    rw [← hd]
                    cases hh : H d
                    · simp [hc1, hc2]
                    · simp
                  subst hcnd2
                  clear hd
                  go_wp2
                  go_meet
                  case rel => exact ⟨rfl, rfl⟩
                · have hc2i : ¬ (pl : Int) < (N : Int) + 8 := by omega
                  have hcnd2 : cnd = false := by rw [HCND.out]; exact decide_eq_false (fun h => hc2 h.2.1)
                  subst hcnd2
                  go_wp2
                  go_meet
                  case rel => exact ⟨rfl, rfl⟩
              · have hc1i : ¬ (N : Int) ≤ (pl : Int) := by omega
                have hcnd2 : cnd = false := by rw [HCND.out]; exact decide_eq_false (fun h => hc1 h.1)
                subst hcnd2
                go_wp2
                go_meet
                case rel => exact ⟨rfl, rfl⟩
            case rest =>
              obtain ⟨rfl, rfl⟩ := hcut
              obtain ⟨H1, hH1⟩ : ∃ H1, H1 = takeRH N pl H := ⟨_, rfl⟩
              obtain ⟨A1, hA1⟩ : ∃ A1, A1 = takeRA N pl s.2.1 H A := ⟨_, rfl⟩
              have HH1 := hid hH1
              have HA1 := hid hA1
              clear hH1 hA1
              go_upto_if 81 with (fail)
              go_cut [] from 82 to 97 (fun wr => Hid (RB wr w.heap.size N H1 A1) ∧ Hid (Blk wr (w.heap.size + 1) (rrV 0 (fun _ => false) (fun _ => [])) 48) ∧ Hid (Below w.heap.size w wr) ∧ Hid (Sr wr w.heap.size (.slice (some ⟨g15, 0, none⟩) 0 0) []))
              case first =>
                cases hcc : cnd with
                | false =>
                  subst hcc
                  go_wp2
                  go_meet
                  case rel =>
                    have h1 : H1 = H := by rw [HH1.out]; exact if_neg (by rw [← HCND.out]; decide)
                    have h2 : A1 = A := by rw [HA1.out]; exact if_neg (by rw [← HCND.out]; decide)
                    rw [h1, h2]
                    exact ⟨K24, K44, B4, T4⟩
                | true =>
                  subst hcc
                  have ht : N ≤ pl ∧ pl < N + 8 ∧ H (pl - N) = false := of_decide_eq_true HCND.out.symm
                  obtain ⟨d, hd⟩ : ∃ d, d = pl - N := ⟨_, rfl⟩
                  have hd8 : d < 8 := by omega
                  have hd8i : (d : Int) < 8 := by omega
                  have hdi : (pl : Int) - (N : Int) = (d : Int) := by omega
                  have HDD := hid hd
                  have h1 := hid (show H1 = updF H d true by rw [HH1.out, hd]; exact if_pos HCND.out.symm)
                  have h2 := hid (show A1 = updF A d s.2.1 by rw [HA1.out, hd]; exact if_pos HCND.out.symm)
                  have cH : wc.cell? ⟨w.heap.size, 1 + d, none⟩ = some (.bool (H d)) := RB.h K24.out hd8
                  have fH : wc.frozen? ⟨w.heap.size, 1 + d, none⟩ = false := Blk.frozen K24.out _
                  have K25 := hid (RB.setH K24.out hd8 true)
                  clear ht hd
                  go_upto_region 15 with fail
                  have P5 := hid (Bytes.rr P34.out K24.out (1 + d) (.bool true))
                  have K45 := hid (show Blk (wc.setCell ⟨w.heap.size, 1 + d, none⟩ (.bool true)) (w.heap.size + 1) (rrV 0 (fun _ => false) (fun _ => [])) 48 from Blk.other K44.out (by simp) _)
                  have B5 := hid (show Below w.heap.size w (wc.setCell ⟨w.heap.size, 1 + d, none⟩ (.bool true)) from B4.out.setCell (Nat.le_refl _) _)
                  have T5 := hid (show Sr (wc.setCell ⟨w.heap.size, 1 + d, none⟩ (.bool true)) w.heap.size (.slice (some ⟨g15, 0, none⟩) 0 0) [] from Rw.set_other T4.out K24.out (by decide))
                  obtain ⟨w5, hw5⟩ : ∃ w5, w5 = wc.setCell ⟨w.heap.size, 1 + d, none⟩ (.bool true) := ⟨_, rfl⟩
                  rw [← hw5] at P5 K45 B5 T5 K25
                  rw [← hw5]
                  clear hw5 c20 cH fH hl4 K24 K44 B4 T4 P34
                  have c20 : w5.cell? ⟨w.heap.size, 0, none⟩ = some (.int .i64 (N : Int)) := RB.n K25.out
                  have cA : w5.cell? ⟨w.heap.size, 9 + d, none⟩ = some (.string (str (A d))) := RB.a K25.out hd8
                  have fA : w5.frozen? ⟨w.heap.size, 9 + d, none⟩ = false := Blk.frozen K25.out _
                  have hl5 : w.heap.size < w5.heap.size := K25.out.lt
                  have hcv := conv_str' P5.out
                  have K26 := hid (RB.setA K25.out hd8 s.2.1)
                  have K46 := hid (show Blk (w5.setCell ⟨w.heap.size, 9 + d, none⟩ (.string (str s.2.1))) (w.heap.size + 1) (rrV 0 (fun _ => false) (fun _ => [])) 48 from Blk.other K45.out (by simp) _)
                  have B6 := hid (show Below w.heap.size w (w5.setCell ⟨w.heap.size, 9 + d, none⟩ (.string (str s.2.1))) from B5.out.setCell (Nat.le_refl _) _)
                  have T6 := hid (show Sr (w5.setCell ⟨w.heap.size, 9 + d, none⟩ (.string (str s.2.1))) w.heap.size (.slice (some ⟨g15, 0, none⟩) 0 0) [] from Rw.set_other T5.out K25.out (by decide))
                  go_wp2
                  go_meet
                  case rel =>
                    rw [h1.out, h2.out]
                    exact ⟨K26, K46, B6, T6⟩
              case rest =>
                obtain ⟨K25, K45, B5, T5⟩ := hcut
                have HZ1 := hid (show (∀ j, 8 ≤ j → H1 j = false) ∧ (∀ j, 8 ≤ j → A1 j = []) from by
                  refine ⟨fun j hj => ?_, fun j hj => ?_⟩
                  · rw [HH1.out]
                    unfold takeRH
                    split
                    · rename_i ht
                      have ht := of_decide_eq_true ht
                      rw [updF_ne (by omega)]
                      exact H8.out j hj
                    · exact H8.out j hj
                  · rw [HA1.out]
                    unfold takeRA
                    split
                    · rename_i ht
                      have ht := of_decide_eq_true ht
                      rw [updF_ne (by omega)]
                      exact A8.out j hj
                    · exact A8.out j hj)
                obtain ⟨r, hr⟩ : ∃ r, r = drain 8 N H1 A1 := ⟨_, rfl⟩
                have HR := hid hr
                clear hr c20 hl4 K24 K44 B4 T4 P34 H8 A8 HCND
                go_wp2_with fail
                go_loopg [15, 16] 8 (fun g v15 v16 wr => ∃ (k : Nat) (told : List (List W8)) (H' : Nat → Bool) (A' : Nat → List W8), g = 8 - k ∧ k ≤ 8 ∧ Hid (told.length ≤ k) ∧ Hid (Sr wr w.heap.size v15 told) ∧ Hid (RB wr w.heap.size (N + k) H' A') ∧ Hid (Blk wr (w.heap.size + 1) (rrV 0 (fun _ => false) (fun _ => [])) 48) ∧ Hid (Below w.heap.size w wr) ∧
                  Hid ((∀ j, 8 - k ≤ j → H' j = false) ∧ ∀ j, 8 ≤ j → A' j = []) ∧ Hid (r = (told ++ (drain (8 - k) (N + k) H' A').1, (drain (8 - k) (N + k) H' A').2)))
                case atStart => exact ⟨0, [], H1, A1, rfl, Nat.zero_le _, hid (Nat.le_refl _), T5, K25, K45, B5, HZ1, hid HR.out⟩
                case round =>
                  obtain ⟨k, told, H', A', hg, hk, TL, TT, KK, K4, BB, HZ, RK⟩ := hrel
                  have c1 : wr.cell? ⟨w.heap.size, 1, none⟩ = some (.bool (H' 0)) := RB.h KK.out (j := 0) (by decide)
                  have hlr : w.heap.size < wr.heap.size := KK.out.lt
                  obtain ⟨nk, hnk0⟩ : ∃ nk, nk = N + k := ⟨_, rfl⟩
                  have HNK := hid (show nk = N + k ∧ nk ≤ 1000008 from ⟨hnk0, by omega⟩)
                  have hnkb : nk ≤ 1000008 := HNK.out.2
                  rw [← hnk0] at KK RK
                  clear hnk0
                  obtain ⟨h0, hh0⟩ : ∃ h0, h0 = H' 0 := ⟨_, rfl⟩
                  rw [← hh0] at c1
                  have HH0 := hid hh0
                  clear hh0
                  cases hh : h0 with
                  | true =>
                    subst hh
                    have hk8 : k < 8 := by
                      by_cases h : k < 8
                      · exact h
                      · have := HZ.out.1 0 (by omega)
                        rw [← HH0.out] at this
                        cases this
                    have c9 : wr.cell? ⟨w.heap.size, 9, none⟩ = some (.string (str (A' 0))) := RB.a KK.out (j := 0) (by decide)
                    have RK' := hid (show r = (told ++ (A' 0 :: (drain (8 - (k + 1)) (N + (k + 1)) (fun j => H' (j + 1)) (fun j => A' (j + 1))).1), (drain (8 - (k + 1)) (N + (k + 1)) (fun j => H' (j + 1)) (fun j => A' (j + 1))).2) by
                      have hnk1 : nk + 1 = N + (k + 1) := by have := HNK.out.1; omega
                      obtain ⟨f, hf⟩ : ∃ f, 8 - k = f + 1 := ⟨7 - k, by omega⟩
                      rw [RK.out, hf, drain_some HH0.out.symm, show 8 - (k + 1) = f by omega]
                      rw [hnk1])
                    obtain ⟨a0, ha0⟩ : ∃ a0, a0 = A' 0 := ⟨_, rfl⟩
                    rw [← ha0] at RK' c9
                    clear ha0
                    have XB := hid (Blk.new wr #[.string (str a0)] 9)
                    go_upto_region 18 with (at_builtin; refine wpList_push rfl (.tmp 101) (.tmp 105) 40 9 rfl Try.underlying40 info_string rfl (by decide) rfl rfl (Rw.alloc TT.out _) (XB.out.cellv rfl) rfl (by rw [List.length_map]; have := TL.out; omega) (by have := BB.out.size; simp; omega) ?_; intro va6 w6 R N' o; have R6 := hid R; have N6 := hid N'; clear R N' o)
                    have A6 := hid ((Below.refl wr.heap.size wr).alloc (Nat.le_refl _) (.cells #[.string (str a0)] 9))
                    have T6 := hid (show Sr w6 w.heap.size va6 (told ++ [a0]) from Sr.pushed R6.out)
                    have K26 := hid (Blk.apart (KK.out.below A6.out) (Rw.alloc TT.out _) (by decide) N6.out)
                    have K46 := hid (Blk.apart (K4.out.below A6.out) (Rw.alloc TT.out _) (by decide) N6.out)
                    have B6 := hid (show Below w.heap.size w w6 from (BB.out.alloc BB.out.size _).trans (N6.out.below (by have := BB.out.size; simp; omega) (fun k hk e => by have := (Rw.lt TT.out k e).1; omega)))
                    clear XB R6 N6 A6 TT KK K4 BB c1 c9 hlr RK
                    go_wp2_with fail
                    go_loopg [16] 7 (fun g v16 wr => ∃ i : Nat, v16 = .int .i64 i ∧ g = 7 - i ∧ i ≤ 7 ∧ Hid (Sr wr w.heap.size va6 (told ++ [a0])) ∧ Hid (RB wr w.heap.size nk (shI i H') (shI i A')) ∧ Hid (Blk wr (w.heap.size + 1) (rrV 0 (fun _ => false) (fun _ => [])) 48) ∧ Hid (Below w.heap.size w wr))
                    case atStart => exact ⟨0, rfl, rfl, by omega, T6, hid (by rw [shI_zero, shI_zero]; exact K26.out), K46, B6⟩
                    case round =>
                      obtain ⟨i, rfl, hgi, hi, TT, KK, K4, BB⟩ := hrel
                      clear T6 K26 K46 B6
                      have hlr : w.heap.size < wr.heap.size := KK.out.lt
                      by_cases hi7 : i < 7
                      · have hi7i : (i : Int) < 7 := by omega
                        have cH : wr.cell? ⟨w.heap.size, 1 + (i + 1), none⟩ = some (.bool (H' (i + 1))) := by have := RB.h KK.out (j := i + 1) (by omega); rwa [shI_at] at this
                        have cH0 : wr.cell? ⟨w.heap.size, 1 + i, none⟩ = some (.bool (shI i H' i)) := RB.h KK.out (by omega)
                        have fH0 : wr.frozen? ⟨w.heap.size, 1 + i, none⟩ = false := Blk.frozen KK.out _
                        have KK1 := hid (RB.setH KK.out (i := i) (by omega) (H' (i + 1)))
                        have K41 := hid (show Blk (wr.setCell ⟨w.heap.size, 1 + i, none⟩ (.bool (H' (i + 1)))) (w.heap.size + 1) (rrV 0 (fun _ => false) (fun _ => [])) 48 from Blk.other K4.out (by simp) _)
                        have BB1 := hid (show Below w.heap.size w (wr.setCell ⟨w.heap.size, 1 + i, none⟩ (.bool (H' (i + 1)))) from BB.out.setCell (Nat.le_refl _) _)
                        have TT1 := hid (show Sr (wr.setCell ⟨w.heap.size, 1 + i, none⟩ (.bool (H' (i + 1)))) w.heap.size va6 (told ++ [a0]) from Rw.set_other TT.out KK.out (by decide))
                        obtain ⟨hq, hhq⟩ : ∃ hq, hq = H' (i + 1) := ⟨_, rfl⟩
                        obtain ⟨hp, hhp⟩ : ∃ hp, hp = shI i H' i := ⟨_, rfl⟩
                        rw [← hhq] at cH KK1 K41 BB1 TT1
                        rw [← hhp] at cH0
                        have HQ := hid hhq
                        clear hhq hhp
                        go_upto_region 22 with fail
                        obtain ⟨w7, hw7⟩ : ∃ w7, w7 = wr.setCell ⟨w.heap.size, 1 + i, none⟩ (.bool hq) := ⟨_, rfl⟩
                        rw [← hw7] at KK1 K41 BB1 TT1
                        rw [← hw7]
                        clear hw7 cH cH0 fH0 hlr TT KK K4 BB
                        have hlr : w.heap.size < w7.heap.size := KK1.out.lt
                        have cA : w7.cell? ⟨w.heap.size, 9 + (i + 1), none⟩ = some (.string (str (A' (i + 1)))) := by have := RB.a KK1.out (j := i + 1) (by omega); rwa [shI_at] at this
                        have cA0 : w7.cell? ⟨w.heap.size, 9 + i, none⟩ = some (.string (str (shI i A' i))) := RB.a KK1.out (by omega)
                        have fA0 : w7.frozen? ⟨w.heap.size, 9 + i, none⟩ = false := Blk.frozen KK1.out _
                        have KK2 := hid (RB.setA KK1.out (i := i) (by omega) (A' (i + 1)))
                        rw [HQ.out, shI_step, shI_step] at KK2
                        have K42 := hid (show Blk (w7.setCell ⟨w.heap.size, 9 + i, none⟩ (.string (str (A' (i + 1))))) (w.heap.size + 1) (rrV 0 (fun _ => false) (fun _ => [])) 48 from Blk.other K41.out (by simp) _)
                        have BB2 := hid (show Below w.heap.size w (w7.setCell ⟨w.heap.size, 9 + i, none⟩ (.string (str (A' (i + 1))))) from BB1.out.setCell (Nat.le_refl _) _)
                        have TT2 := hid (show Sr (w7.setCell ⟨w.heap.size, 9 + i, none⟩ (.string (str (A' (i + 1))))) w.heap.size va6 (told ++ [a0]) from Rw.set_other TT1.out KK1.out (by decide))
                        obtain ⟨aq, haq⟩ : ∃ aq, aq = A' (i + 1) := ⟨_, rfl⟩
                        obtain ⟨ap, hap⟩ : ∃ ap, ap = shI i A' i := ⟨_, rfl⟩
                        rw [← haq] at cA KK2 K42 BB2 TT2
                        rw [← hap] at cA0
                        clear haq hap KK1 K41 BB1 TT1
                        go_wp2
                        go_roundg (7 - (i + 1))
                        case measure => omega
                        case rel => exact ⟨i + 1, by go_num, rfl, by omega, TT2, KK2, K42, BB2⟩
                      · have hi7i : ¬ (i : Int) < 7 := by omega
                        have hi7e : i = 7 := by omega
                        subst hi7e
                        have c8 : wr.cell? ⟨w.heap.size, 8, none⟩ = some (.bool (shI 7 H' 7)) := RB.h KK.out (j := 7) (by decide)
                        have f8 : wr.frozen? ⟨w.heap.size, 8, none⟩ = false := Blk.frozen KK.out _
                        have c16 : wr.cell? ⟨w.heap.size, 16, none⟩ = some (.string (str (shI 7 A' 7))) := RB.a KK.out (j := 7) (by decide)
                        have f16 : wr.frozen? ⟨w.heap.size, 16, none⟩ = false := Blk.frozen KK.out _
                        have c0 : wr.cell? ⟨w.heap.size, 0, none⟩ = some (.int .i64 (nk : Int)) := RB.n KK.out
                        have f0 : wr.frozen? ⟨w.heap.size, 0, none⟩ = false := Blk.frozen KK.out _
                        have KE := hid (show RB (((wr.setCell ⟨w.heap.size, 8, none⟩ (.bool false)).setCell ⟨w.heap.size, 16, none⟩ (.string ⟨#[]⟩)).setCell ⟨w.heap.size, 0, none⟩ (.int .i64 ((nk : Int) + 1))) w.heap.size (nk + 1) (updF (shI 7 H') 7 false) (updF (shI 7 A') 7 []) from RB.setN (RB.setA (RB.setH KK.out (i := 7) (by decide) false) (i := 7) (by decide) []) (nk + 1))
                        have K4E := hid (show Blk (((wr.setCell ⟨w.heap.size, 8, none⟩ (.bool false)).setCell ⟨w.heap.size, 16, none⟩ (.string ⟨#[]⟩)).setCell ⟨w.heap.size, 0, none⟩ (.int .i64 ((nk : Int) + 1))) (w.heap.size + 1) (rrV 0 (fun _ => false) (fun _ => [])) 48 from Blk.other (Blk.other (Blk.other K4.out (by simp) _) (by simp) _) (by simp) _)
                        have BBE := hid (show Below w.heap.size w (((wr.setCell ⟨w.heap.size, 8, none⟩ (.bool false)).setCell ⟨w.heap.size, 16, none⟩ (.string ⟨#[]⟩)).setCell ⟨w.heap.size, 0, none⟩ (.int .i64 ((nk : Int) + 1))) from ((BB.out.setCell (Nat.le_refl _) _).setCell (Nat.le_refl _) _).setCell (Nat.le_refl _) _)
                        have TTE := hid (show Sr (((wr.setCell ⟨w.heap.size, 8, none⟩ (.bool false)).setCell ⟨w.heap.size, 16, none⟩ (.string ⟨#[]⟩)).setCell ⟨w.heap.size, 0, none⟩ (.int .i64 ((nk : Int) + 1))) w.heap.size va6 (told ++ [a0]) from Rw.set_other (Rw.set_other (Rw.set_other TT.out KK.out (by decide)) (Blk.set KK.out 8 _) (by decide)) (Blk.set (Blk.set KK.out 8 _) 16 _) (by decide))
                        have KF := hid (show RB (((wr.setCell ⟨w.heap.size, 8, none⟩ (.bool false)).setCell ⟨w.heap.size, 16, none⟩ (.string ⟨#[]⟩)).setCell ⟨w.heap.size, 0, none⟩ (.int .i64 ((nk : Int) + 1))) w.heap.size (N + (k + 1)) (fun j => H' (j + 1)) (fun j => A' (j + 1)) from by
                          have e := rrV_congr (N := nk + 1) (M := N + (k + 1)) (H := updF (shI 7 H') 7 false) (H' := fun j => H' (j + 1)) (A := updF (shI 7 A') 7 []) (A' := fun j => A' (j + 1)) (by have := HNK.out; omega) (fun j hj => by
                            by_cases e : j = 7
                            · subst e; rw [updF_same]; exact (HZ.out.1 8 (by omega)).symm
                            · rw [updF_ne e]; exact if_pos (by omega)) (fun j hj => by
                            by_cases e : j = 7
                            · subst e; rw [updF_same]; exact (HZ.out.2 8 (by omega)).symm
                            · rw [updF_ne e]; exact if_pos (by omega))
                          exact RB.congr KE.out e)
                        obtain ⟨hq, hhq⟩ : ∃ hq, hq = shI 7 H' 7 := ⟨_, rfl⟩
                        obtain ⟨aq, haq⟩ : ∃ aq, aq = shI 7 A' 7 := ⟨_, rfl⟩
                        rw [← hhq] at c8
                        rw [← haq] at c16
                        clear hhq haq TT KK K4 BB KE
                        have hnk := hid HNK.out
                        go_wp2
                        go_roundg (8 - (k + 1))
                        case measure => omega
                        case rel => exact ⟨k + 1, told ++ [a0], fun j => H' (j + 1), fun j => A' (j + 1), rfl, by omega, hid (by rw [List.length_append]; have := TL.out; simp; omega), TTE, KF, K4E, BBE, hid ⟨fun j hj => HZ.out.1 (j + 1) (by omega), fun j hj => HZ.out.2 (j + 1) (by omega)⟩, hid (by rw [RK'.out]; simp)⟩
                  | false =>
                    subst hh
                    have RK' := hid (show r = (told, nk, H', A') by rw [RK.out, drain_none HH0.out.symm]; simp)
                    go_upto_region 26 with fail
                    obtain ⟨v15, hv15⟩ : ∃ v15, v15 = u15 := ⟨_, rfl⟩
                    rw [← hv15] at TT
                    rw [← hv15]
                    clear hv15 c1 hlr
                    have hnk := hid (show nk ≤ 1000008 by have := HNK.out; have := HNN.out; omega)
                    refine region_inv (n := 140) (I := AckI wr w.heap.size (w.heap.size + 1) (rrV nk H' A') (rrV 0 (fun _ => false) (fun _ => [])) v15 nk) (by kernel_rfl) (by kernel_rfl) (by kernel_rfl) (by kernel_rfl) (AckI.start K4.out (rrV_size _ _ _)) ?hop ?hend
                    case hop =>
                      refine And.intro ?_ ?_
                      · intro L V ρ w' hI hk hc hf hd hs
                        have s2 : ρ (.tmp 2) = .pointer (some ⟨w.heap.size, 0, none⟩) := hs 2 (by kernel_rfl)
                        clear hd hs
                        exact outcome_value (run_load_blk rfl s2 (hI.mod.blk KK.out (by omega)) Try.underlying48 rfl (rrV_info _ _ _)) (hI.val (by decide) (Below.refl _ _) rfl)
                      refine And.intro ?_ ?_
                      · intro L V ρ w' hI hk hc hf hd hs
                        have s15 : ρ (.tmp 15) = v15 := hs 15 (by kernel_rfl)
                        clear hd hs
                        rw [BigFrame.run_move (.tmp 15) rfl]
                        exact hI.val (by decide) (Below.refl _ _) s15
                      refine And.intro ?_ ?_
                      · intro L V ρ w' hI hk hc hf hd hs
                        have s2 : ρ (.tmp 2) = .pointer (some ⟨w.heap.size, 0, none⟩) := hs 2 (by kernel_rfl)
                        clear hd hs
                        exact outcome_value (v := .pointer (some ⟨w.heap.size, 0, none⟩)) (by simp [go_sem, s2]) (hI.val (by decide) (Below.refl _ _) rfl)
                      refine And.intro ?_ ?_
                      · intro L V ρ w' hI hk hc hf hd hs
                        have h137 := (hd 2 (by kernel_rfl)).1
                        have s137 : ρ (.tmp 137) = .pointer (some ⟨w.heap.size, 0, none⟩) := ((hd 2 (by kernel_rfl)).2 137 (by kernel_rfl)).trans (hI.v2 (hd 2 (by kernel_rfl)).1)
                        clear hd hs
                        have cell0 := RB.n (hI.mod.blk KK.out (by omega))
                        exact outcome_value (v := .int .i64 (nk : Int)) (by simp [go_sem, s137, cell0]) (hI.val (by decide) (Below.refl _ _) rfl)
                      refine And.intro ?_ ?_
                      · intro L V ρ w' hI hk hc hf hd hs
                        have h138 := (hd 3 (by kernel_rfl)).1
                        have s138 : ρ (.tmp 138) = .int .i64 (nk : Int) := ((hd 3 (by kernel_rfl)).2 138 (by kernel_rfl)).trans (hI.v3 (hd 3 (by kernel_rfl)).1)
                        clear hd hs
                        refine outcome_enter (w := w') (f := 61) (args := #[.int .i64 (nk : Int)]) (by simp [go_sem, hf, s138]) ?_
                        refine (rack_c w' nk (by have := hnk.out; omega)).mono ?_
                        rintro e w2 ⟨v', rfl, O, hb⟩
                        exact ⟨_, rfl, hI.val (by decide) hb (O.lower hI.mod.size)⟩
                      refine And.intro ?_ ?_
                      · intro L V ρ w' hI hk hc hf hd hs
                        have s4 : ρ (.tmp 4) = .pointer (some ⟨w.heap.size + 1, 0, none⟩) := hs 4 (by kernel_rfl)
                        have h135 := (hd 0 (by kernel_rfl)).1
                        have s135 : ρ (.tmp 135) = .agg (rrV nk H' A') := ((hd 0 (by kernel_rfl)).2 135 (by kernel_rfl)).trans (hI.v0 (hd 0 (by kernel_rfl)).1)
                        clear hd hs
                        obtain ⟨c, hc4, hcs, _⟩ := hI.k4
                        exact outcome_skip (run_store_blk rfl s4 s135 hc4 (rrV_info _ _ _) (hcs.trans (rrV_size _ _ _).symm) (rrV_one _ _ _)) (hI.put (by have := K4.out.lt; exact this) (rrV_size _ _ _))
                      refine And.intro ?_ ?_
                      · intro L V ρ w' hI hk hc hf hd hs
                        have h136 := (hd 1 (by kernel_rfl)).1
                        have s136 : ρ (.tmp 136) = v15 := ((hd 1 (by kernel_rfl)).2 136 (by kernel_rfl)).trans (hI.v1 (hd 1 (by kernel_rfl)).1)
                        clear hd hs
                        rw [BigFrame.run_assign (.tmp 136) rfl]
                        exact hI.val (by decide) (Below.refl _ _) s136
                      refine And.intro ?_ ?_
                      · intro L V ρ w' hI hk hc hf hd hs
                        have h139 := (hd 4 (by kernel_rfl)).1
                        have s139 : ρ (.tmp 139) = V 4 := (hd 4 (by kernel_rfl)).2 139 (by kernel_rfl)
                        clear hd hs
                        rw [BigFrame.run_assign (.tmp 139) rfl]
                        exact hI.val (by decide) (Below.refl _ _) (by rw [s139]; exact hI.v4 h139)
                      refine And.intro ?_ ?_
                      · intro L V ρ w' hI hk hc hf hd hs
                        clear hd hs
                        exact outcome_value (v := .int .i64 0) (by simp [go_sem, hc]) (hI.val (by decide) (Below.refl _ _) rfl)
                      exact trivial
                    case hend =>
                      intro L V w13 hL hI
                      obtain ⟨c, hc4, _, hcs⟩ := hI.k4
                      have hcs := hcs (hL 5 (by decide))
                      subst hcs
                      have e6 := hid (hI.v6 (hL 6 (by decide)))
                      have e7 := hid (hI.v7 (hL 7 (by decide)))
                      have e8 := hid (hI.v8 (hL 8 (by decide)))
                      have M13 := hid hI.mod
                      have C4 := hid hc4
                      clear hI hL hc4
                      simp only [lexF, Act.put, List.setIfInBounds_toArray, List.set_cons_zero, List.set_cons_succ]
                      go_wp2
                      refine bodyPost_ret (results_cell4 rfl _ _ (w.heap.size + 1) _ _ _ _ rfl rfl rfl rfl (load_blk C4.out Try.underlying48 rfl (rrV_info _ _ _))) rfl ?_
                      have hr := RK'.out
                      have hfin := RTk.yes (w' := w13) (vl := V 6) (va := V 7) HM.out HH1.out HA1.out HR.out (by
                        rw [hr, e6.out]
                        exact Rw.mod TT.out M13.out (fun k hk e => by
                          obtain ⟨cs, hb⟩ := Rw.kind TT.out hk
                          rw [e] at hb
                          exact absurd (Blk.inj hb K4.out).2 (by decide))) (by rw [hr]; exact e7.out.lower BB.out.size) (BB.out.trans (M13.out.below BB.out.size (fun k hk e => by omega)))
                      rw [hr] at hfin
                      rw [e8.out]
                      exact hfin
          · have er : (0 : Int) < (s.2.2.length : Int) := by have := List.length_pos_iff.2 hr; omega
            go_wp2_with (first | ((with_reducible refine at_op (.load 48 (.tmp 2)) rfl ?_); refine wpList_load_blk rfl 48 (.tmp 2) rfl w.heap.size rfl K23.out Try.underlying48 rfl (rrV_info _ _ _) ?_) | ((with_reducible refine at_op (.store 48 (.tmp 4) (.tmp 54)) rfl ?_); refine wpList_store_blk rfl 48 (.tmp 4) (.tmp 54) rfl (w.heap.size + 1) rfl rfl K43.out (rrV_info _ _ _) ((rrV_size _ _ _).trans (rrV_size _ _ _).symm) (rrV_one _ _ _) ?_))
            refine bodyPost_ret (results_cell4 rfl _ _ (w.heap.size + 1) _ _ _ _ rfl rfl rfl rfl (load_blk ((K43.out).setRow _) Try.underlying48 rfl (rrV_info _ _ _))) rfl ?_
            exact RTk.no (c := 3) (by rw [HP.out, if_neg (fun h => hr h.2.2.2)]) (by decide) (B3.out.trans ((Mod.setRow _ _ _).below B3.out.size (fun k hk e => by omega)))
        · have e0 : (s.1 != 0) = true := by simpa using h0
          go_wp2_with (first | ((with_reducible refine at_op (.load 48 (.tmp 2)) rfl ?_); refine wpList_load_blk rfl 48 (.tmp 2) rfl w.heap.size rfl K23.out Try.underlying48 rfl (rrV_info _ _ _) ?_) | ((with_reducible refine at_op (.store 48 (.tmp 4) (.tmp 54)) rfl ?_); refine wpList_store_blk rfl 48 (.tmp 4) (.tmp 54) rfl (w.heap.size + 1) rfl rfl K43.out (rrV_info _ _ _) ((rrV_size _ _ _).trans (rrV_size _ _ _).symm) (rrV_one _ _ _) ?_))
          refine bodyPost_ret (results_cell4 rfl _ _ (w.heap.size + 1) _ _ _ _ rfl rfl rfl rfl (load_blk ((K43.out).setRow _) Try.underlying48 rfl (rrV_info _ _ _))) rfl ?_
          exact RTk.no (c := 3) (by rw [HP.out, if_neg (fun h => h0 h.2.2.1)]) (by decide) (B3.out.trans ((Mod.setRow _ _ _).below B3.out.size (fun k hk e => by omega)))
      · simp only [if_neg h4] at CT
        go_upto_region 8 with (first
          | ((with_reducible refine at_op (.slice 29 (.tmp 32) (some (.const (.int .i64 1))) none none) rfl ?_); refine wpList_cut rfl (.tmp 32) (.const (.int .i64 1)) rfl (k := 1) rfl rfl rfl hq1 hqc ?_)
          | (go_at_call 59; refine CT.out.mono ?_; rintro e w2 ⟨rfl, hb2⟩; have B12 := hid hb2; clear hb2))
        have B2 := hid (B1.out.trans (B12.out.mono B1.out.size))
        have K22 := hid (K21.out.below B12.out)
        have K42 := hid (K41.out.below B12.out)
        go_wp2_with (first | ((with_reducible refine at_op (.load 48 (.tmp 2)) rfl ?_); refine wpList_load_blk rfl 48 (.tmp 2) rfl w.heap.size rfl K22.out Try.underlying48 rfl (rrV_info _ _ _) ?_) | ((with_reducible refine at_op (.store 48 (.tmp 4) (.tmp 40)) rfl ?_); refine wpList_store_blk rfl 48 (.tmp 4) (.tmp 40) rfl (w.heap.size + 1) rfl rfl K42.out (rrV_info _ _ _) ((rrV_size _ _ _).trans (rrV_size _ _ _).symm) (rrV_one _ _ _) ?_))
        refine bodyPost_ret (results_cell4 rfl _ _ (w.heap.size + 1) _ _ _ _ rfl rfl rfl rfl (load_blk ((K42.out).setRow _) Try.underlying48 rfl (rrV_info _ _ _))) rfl ?_
        exact RTk.no (c := 3) (by rw [HP.out, if_neg (fun h => h4 h.2.1)]) (by decide) (B2.out.trans ((Mod.setRow _ _ _).below B2.out.size (fun k hk e => by omega)))
    · have e68 : (ub x0 != 68) = true := by
        have : ub x0 ≠ 68 := fun e => h68 (by
          apply BitVec.eq_of_toNat_eq
          have : (x0.toNat : Int) = 68 := e
          show x0.toNat = 68
          omega)
        simpa using this
      go_wp2_with (first | ((with_reducible refine at_op (.load 48 (.tmp 2)) rfl ?_); refine wpList_load_blk rfl 48 (.tmp 2) rfl w.heap.size rfl K21.out Try.underlying48 rfl (rrV_info _ _ _) ?_) | ((with_reducible refine at_op (.store 48 (.tmp 4) (.tmp 30)) rfl ?_); refine wpList_store_blk rfl 48 (.tmp 4) (.tmp 30) rfl (w.heap.size + 1) rfl rfl K41.out (rrV_info _ _ _) ((rrV_size _ _ _).trans (rrV_size _ _ _).symm) (rrV_one _ _ _) ?_))
      refine bodyPost_ret (results_cell4 rfl _ _ (w.heap.size + 1) _ _ _ _ rfl rfl rfl rfl (load_blk ((K41.out).setRow _) Try.underlying48 rfl (rrV_info _ _ _))) rfl ?_
      exact RTk.no (c := 3) (by rw [HP.out, if_neg (fun h => h68 h.1)]) (by decide) (B1.out.trans ((Mod.setRow _ _ _).below B1.out.size (fun k hk e => by omega)))
  · have HP := hid (show (parseB xs).1 = 14 by unfold parseB; rw [if_neg ho])
    simp only [if_neg ho] at CO
    clear hB ho hl
    go_enter Try.func46, Try.ntmps46
    go_upto_region 1 with fail
    rw [← HW0.out]
    go_upto_region 3 with (go_at_call 58; refine CO.out.mono ?_; rintro e w1 ⟨rfl, hb1⟩; have B01 := hid hb1; clear hb1)
    have B1 := hid (B0.out.trans (B01.out.mono B0.out.size))
    have K21 := hid (K2.out.below B01.out)
    have K41 := hid (K4.out.below B01.out)
    go_wp2_with (first | ((with_reducible refine at_op (.load 48 (.tmp 2)) rfl ?_); refine wpList_load_blk rfl 48 (.tmp 2) rfl w.heap.size rfl K21.out Try.underlying48 rfl (rrV_info _ _ _) ?_) | ((with_reducible refine at_op (.store 48 (.tmp 4) (.tmp 24)) rfl ?_); refine wpList_store_blk rfl 48 (.tmp 4) (.tmp 24) rfl (w.heap.size + 1) rfl rfl K41.out (rrV_info _ _ _) ((rrV_size _ _ _).trans (rrV_size _ _ _).symm) (rrV_one _ _ _) ?_))
    refine bodyPost_ret (results_cell4 rfl _ _ (w.heap.size + 1) _ _ _ _ rfl rfl rfl rfl (load_blk ((K41.out).setRow _) Try.underlying48 rfl (rrV_info _ _ _))) rfl ?_
    exact RTk.no (c := 14) (HP.out) (by decide) (B1.out.trans ((Mod.setRow _ _ _).below B1.out.size (fun k hk e => by omega)))
end Go.Proofs.Ytkehejkjifgieaa
