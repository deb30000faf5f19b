/- Set lets a number be due at a time. -/
import Derived.Test.YtfolgjgkeheaoaaSetLaw
import Derived.Maps.AppendAt
namespace Go.Proofs.Ytfolgjgkeheaoaa
open Go.RowKit Go.ChangeMaps

theorem info62 : (Try.prog.info? 62).map (fun i => (i.zero, i.size, i.bytes)) = some (some (.agg #[.int .u32 0, .int .u64 0]), 2, 16) := by kernel_rfl

/-- What Set leaves: e its answer. -/
structure SetDone (w w' : World) (t mb : Nat) (sv : Value) (n : Nat) (f : Nat → Ent) (id at_ : Int) (e : Int) : Prop where
  mod : Mod (fun k => k = t ∨ Own sv mb k) w w'
  full : e = 7 → ¬ Has n f id ∧ 1000 ≤ n ∧ Tm w' t mb sv n f
  done : e ≠ 7 → e = 0 ∧ (Has n f id ∨ n < 1000) ∧ ∃ sv' n' f', Tm w' t mb sv' n' f' ∧ (∀ k, Own sv' mb k → Own sv mb k ∨ w.heap.size ≤ k) ∧ Heap n' f' ∧ (Has n f id → n' = n) ∧ (¬ Has n f id → n' = n + 1) ∧ ∀ p, In n' f' p ↔ (p.1 ≠ id ∧ In n f p) ∨ p = (id, at_)

set_option maxRecDepth 100000 in
set_option maxHeartbeats 4000000 in
theorem set_old {w : World} {t mb n : Nat} {sv : Value} {f : Nat → Ent} (h : Tm w t mb sv n f) (hh : Heap n f) (hn : n ≤ 1000) {id at_ : Int} (hhas : Has n f id) :
    Calls Try.prog 8 #[.pointer (some ⟨t, 0, none⟩), .int .u32 id, .int .u64 at_] w fun e w' => ∃ x, e = .returned (.int .i64 x) ∧ SetDone w w' t mb sv n f id at_ x := by
  obtain ⟨i, hi, rfl⟩ := hhas
  obtain ⟨g, cap, cur, rfl, hb, h1, h2, h3, h4⟩ := h.pos (by omega)
  obtain ⟨D, hD, hD1, hD2⟩ := h.map
  have ht := h.blk.lt
  have hg := hb.lt
  have htg : t ≠ g := h.blk.ne hb (by decide)
  have htm : t ≠ mb := hD.not_cells h.blk
  have hgm : g ≠ mb := hD.not_cells hb
  have c0 : w.cell? ⟨t, 0, none⟩ = some (.slice (some ⟨g, 0, none⟩) n cap) := h.blk.cellv rfl
  have c1 : w.cell? ⟨t, 1, none⟩ = some (.map (some mb)) := h.blk.cellv rfl
  have lk : (Instr.lookup 56 (.map (some mb)) (.int .u32 (f i).1) true).run Try.prog w = .ok (.tuple #[.int .i64 (i : Int), .bool true]) w := by
    have := hD.look (P := Try.prog) (t := 56) (z := .int .i64 0) rfl rfl rfl (f i).1
    rw [hD1 i hi] at this; exact this
  have cv : w.cell? ⟨g, i * 2 + 1, none⟩ = some (.int .u64 (f i).2) := hb.cellv (h4 i hi).2
  have fz : w.frozen? ⟨g, i * 2 + 1, none⟩ = false := hb.frozen _
  have T2 : Tm (w.setCell ⟨g, i * 2 + 1, none⟩ (.int .u64 at_)) t mb (.slice (some ⟨g, 0, none⟩) n cap) n (put f i ((f i).1, at_)) :=
    ⟨h.blk.other (Ne.symm htg) _, Or.inr ⟨g, cap, _, rfl, hb.set _ _, h1, h2, by simp [h3], h4.at hi (by omega) _⟩, where_put_old (h.map.mono (Below.heap_setCell _ _ _ _ (Ne.symm hgm))) _, inj_put_old h.inj _, h.few⟩
  have T2' := hid T2; have HD := hid hD1; have HD2 := hid hD2; have HD0 := hid hD; have H4 := hid h4; have HH := hid hh; have H := hid h; have HB := hid hb
  clear T2 hD1 hD2 hD h4 hh h hb
  go_enter Try.func8, Try.ntmps8
  go_wp2_with (go_at_call 20; refine (settle_c T2'.out rfl hi (up_put HH.out _)).mono ?_; rintro e w2 ⟨rfl, f2, T3, D3, I3, M3⟩; have T3' := hid T3; have D3' := hid D3; have I3' := hid I3; have M3' := hid M3; clear T3 D3 I3 M3)
  go_ret
  refine ⟨0, rfl, ⟨?_, fun h => absurd h (by decide), fun _ => ⟨rfl, Or.inl ⟨i, hi, rfl⟩, _, n, f2, T3'.out, fun _ => Or.inl, D3'.out, fun _ => rfl, fun h => absurd ⟨i, hi, rfl⟩ h, fun p => (I3'.out p).trans (in_put_old H.out.inj hi _ p)⟩⟩⟩
  exact (((Mod.refl _ w).setCell (fun _ => Or.inr (Or.inl rfl)) _)).trans (M3'.out.weaken fun k _ hk => Or.inr hk)

theorem where_none {n : Nat} {f : Nat → Ent} {D : Int → Option Value} (h3 : ∀ x v, D x = some v → ∃ k, k < n ∧ (f k).1 = x) {x : Int} (hn : ¬ Has n f x) : D x = none := by
  cases h : D x with
  | none => rfl
  | some v => exact absurd (h3 x v h) hn

set_option maxRecDepth 100000 in
set_option maxHeartbeats 4000000 in
theorem set_full {w : World} {t mb n : Nat} {sv : Value} {f : Nat → Ent} (h : Tm w t mb sv n f) (hn : 1000 ≤ n) {id at_ : Int} (hhas : ¬ Has n f id) :
    Calls Try.prog 8 #[.pointer (some ⟨t, 0, none⟩), .int .u32 id, .int .u64 at_] w fun e w' => ∃ x, e = .returned (.int .i64 x) ∧ SetDone w w' t mb sv n f id at_ x := by
  obtain ⟨g, cap, cur, rfl, hb, h1, h2, h3, h4⟩ := h.pos (by omega)
  obtain ⟨D, hD, hD1, hD2⟩ := h.map
  have ht := h.blk.lt
  have few := h.few
  have c0 : w.cell? ⟨t, 0, none⟩ = some (.slice (some ⟨g, 0, none⟩) n cap) := h.blk.cellv rfl
  have c1 : w.cell? ⟨t, 1, none⟩ = some (.map (some mb)) := h.blk.cellv rfl
  have lk : (Instr.lookup 56 (.map (some mb)) (.int .u32 id) true).run Try.prog w = .ok (.tuple #[.int .i64 0, .bool false]) w := by
    have := hD.look (P := Try.prog) (t := 56) (z := .int .i64 0) rfl rfl rfl id
    rw [where_none hD2 hhas] at this; exact this
  have HD := hid hD1; have HD2 := hid hD2; have HD0 := hid hD; have H4 := hid h4; have H := hid h; have HB := hid hb; have HN := hid hhas
  clear hD1 hD2 hD h4 h hb hhas
  go_enter Try.func8, Try.ntmps8
  go_wp2
  go_ret
  exact ⟨7, rfl, ⟨Mod.refl _ _, fun _ => ⟨HN.out, hn, H.out⟩, fun h => absurd rfl h⟩⟩

/-- What append has left. -/
theorem grow_facts {w w1 : World} {t mb n : Nat} {sv : Value} {f : Nat → Ent} {D : Int → Option Value} {cs : Array Value} {T : TypeId} (h : Tm w t mb sv n f) (hD : IMap w mb .u32 D) (hg : (w.alloc (.cells cs T)).grownBy w1 sv.ownBlock) :
    Blk w1 t #[sv, .map (some mb)] 59 ∧ IMap w1 mb .u32 D ∧ Mod (fun k => sv.ownBlock = some k) w w1 := by
  have M : Mod (fun k => sv.ownBlock = some k) (w.alloc (.cells cs T)) w1 := Mod.of_grown hg (fun k hk => hk)
  have M1 := ((Mod.refl (fun k => sv.ownBlock = some k) w).alloc (.cells cs T)).trans M
  have nt : ¬ sv.ownBlock = some t := fun e => Own.not_t h (Or.inl e)
  have nm : ¬ sv.ownBlock = some mb := by
    intro e
    rcases h.row with ⟨r, _⟩ | ⟨g', cap, cur, r1, r2, r3⟩
    · rw [r] at e; cases e
    · rw [r1] at e; cases e; exact hD.not_cells r2 rfl
  exact ⟨M1.blk h.blk nt, hD.of_block (M1.block mb hD.lt nm), M1⟩

set_option maxRecDepth 100000 in
set_option maxHeartbeats 4000000 in
theorem set_new {w : World} {t mb n : Nat} {sv : Value} {f : Nat → Ent} (h : Tm w t mb sv n f) (hh : Heap n f) (hn : n < 1000) {id at_ : Int} (hhas : ¬ Has n f id) :
    Calls Try.prog 8 #[.pointer (some ⟨t, 0, none⟩), .int .u32 id, .int .u64 at_] w fun e w' => ∃ x, e = .returned (.int .i64 x) ∧ SetDone w w' t mb sv n f id at_ x := by
  obtain ⟨p, cap, hsv⟩ : ∃ p cap, sv = .slice p n cap := by
    rcases h.row with ⟨rfl, rfl⟩ | ⟨g, cap, cur, rfl, _⟩
    · exact ⟨_, _, rfl⟩
    · exact ⟨_, _, rfl⟩
  obtain ⟨D, hD, hD1, hD2⟩ := h.map
  have ht := h.blk.lt
  have few := h.few
  have c0 : w.cell? ⟨t, 0, none⟩ = some (.slice p n cap) := by rw [← hsv]; exact h.blk.cellv rfl
  have c1 : w.cell? ⟨t, 1, none⟩ = some (.map (some mb)) := h.blk.cellv rfl
  have lk : (Instr.lookup 56 (.map (some mb)) (.int .u32 id) true).run Try.prog w = .ok (.tuple #[.int .i64 0, .bool false]) w := by
    have := hD.look (P := Try.prog) (t := 56) (z := .int .i64 0) rfl rfl rfl id
    rw [where_none hD2 hhas] at this; exact this
  obtain ⟨xs, hown, hxs⟩ := h.row_own
  have hxl := hid hown.1
  obtain ⟨i0, hi, hz0, hz1, hz2⟩ := info_parts info62
  have HD := hid hD1; have HD2 := hid hD2; have HD0 := hid hD; have H := hid h; have HN := hid hhas; have HX := hid hxs; have HH := hid hh; have HO := hid hown
  clear hD1 hD2 hD h hhas hxs hh hown
  subst hsv
  go_enter Try.func8, Try.ntmps8
  go_wp2_with (at_builtin; refine wpList_append_own_at _ rfl (.tmp 37) (.tmp 40) 57 rfl 0 62 i0 (.agg #[.int .u32 0, .int .u64 0]) 2 16 rfl hi hz0 hz1 hz2 rfl (by decide) (.slice p n cap) n xs rfl (HO.out.alloc _) ⟨w.heap.size, 0, none⟩ 1 1 [.int .u32 id, .int .u64 0] rfl rfl (news_alloc w #[.int .u32 id, .int .u64 0] _) (by simp [Value.oneCell']) (by unfold maxLen; omega) (by omega) (by simp) ?_)
  intro v' w1 hown' hgrow _ hat
  obtain ⟨b1, b2, M1⟩ := grow_facts H.out HD0.out hgrow
  obtain ⟨g, cap1, cur, rfl, hb, q1, q2, q3, q4⟩ := grown_ents (e := (id, 0)) hown' hxl.out HX.out
  clear hown' hgrow
  have ht1 := b1.lt
  have hg1 := hb.lt
  have htg : t ≠ g := b1.ne hb (by decide)
  have htm : t ≠ mb := b2.not_cells b1
  have hgm : g ≠ mb := b2.not_cells hb
  have d0 : w1.cell? ⟨t, 0, none⟩ = some (.slice p n cap) := b1.cellv rfl
  have d1 : w1.cell? ⟨t, 1, none⟩ = some (.map (some mb)) := b1.cellv rfl
  have d2 : w1.frozen? ⟨t, 0, none⟩ = false := b1.frozen _
  have b3 : Blk (w1.setCell ⟨t, 0, none⟩ (.slice (some ⟨g, 0, none⟩) (n + 1) cap1)) t #[.slice (some ⟨g, 0, none⟩) (n + 1) cap1, .map (some mb)] 59 := b1.set 0 _
  have b4 : IMap (w1.setCell ⟨t, 0, none⟩ (.slice (some ⟨g, 0, none⟩) (n + 1) cap1)) mb .u32 D := b2.other htm _
  have b5 : Blk (w1.setCell ⟨t, 0, none⟩ (.slice (some ⟨g, 0, none⟩) (n + 1) cap1)) g cur 62 := hb.other htg _
  have M2 : Mod (fun k => k = t ∨ Own (.slice p n cap) mb k) w (w1.setCell ⟨t, 0, none⟩ (.slice (some ⟨g, 0, none⟩) (n + 1) cap1)) := (M1.weaken (S' := fun k => k = t ∨ Own (.slice p n cap) mb k) (fun k _ hk => Or.inr (Or.inl hk))).setCell (p := ⟨t, 0, none⟩) (fun _ => Or.inl rfl) _
  obtain ⟨es, cl, hup, hup2⟩ := b4.update (P := Try.prog) (t := 56) rfl rfl id (.int .i64 n)
  have c5 := hup2 _ (heap_setBlock b4.lt _)
  have c3 := b3.setBlock (.map es cl) htm
  have c4 := b5.setBlock (.map es cl) hgm
  have M3 := M2.setBlock (b := mb) (fun _ => Or.inr (Or.inr rfl)) (.map es cl)
  have d3 : (setBlock (w1.setCell ⟨t, 0, none⟩ (.slice (some ⟨g, 0, none⟩) (n + 1) cap1)) mb (.map es cl)).cell? ⟨t, 0, none⟩ = some (.slice (some ⟨g, 0, none⟩) (n + 1) cap1) := c3.cellv rfl
  have d4 : (setBlock (w1.setCell ⟨t, 0, none⟩ (.slice (some ⟨g, 0, none⟩) (n + 1) cap1)) mb (.map es cl)).cell? ⟨g, n * 2 + 1, none⟩ = some (.int .u64 0) := c4.cellv (by have := (q4 n (by omega)).2; rw [put_self] at this; exact this)
  have d5 : (setBlock (w1.setCell ⟨t, 0, none⟩ (.slice (some ⟨g, 0, none⟩) (n + 1) cap1)) mb (.map es cl)).frozen? ⟨g, n * 2 + 1, none⟩ = false := c4.frozen _
  generalize hw3 : setBlock (w1.setCell ⟨t, 0, none⟩ (.slice (some ⟨g, 0, none⟩) (n + 1) cap1)) mb (.map es cl) = w3 at *
  have ht3 := c3.lt
  have hg3 := c4.lt
  have hcs : (n + 1) * 2 ≤ cur.size := by omega
  have T4 : Tm (w3.setCell ⟨g, n * 2 + 1, none⟩ (.int .u64 at_)) t mb (.slice (some ⟨g, 0, none⟩) (n + 1) cap1) (n + 1) (put f n (id, at_)) := by
    refine ⟨c3.other (Ne.symm htg) _, Or.inr ⟨g, cap1, _, rfl, c4.set _ _, q1, q2, by simp [q3], ?_⟩, ?_, inj_put_new H.out.inj HN.out, by omega⟩
    · have := q4.at (i := n) (by omega) hcs at_
      rw [put_self, put_put] at this; exact this
    · exact where_put_new (e := (id, at_)) HD.out HD2.out HN.out (c5.other hgm _)
  have T4' := hid T4; have M3' := hid M3
  clear T4 M3 M2 M1 b1 b2 b3 b4 b5 c3 c4 c5 hb q4 hup2 hcs q3
  have HW3 := hid hw3
  have G := hid (show g < w.heap.size → Own (.slice p n cap) mb g from fun hlt => by
    rcases hat with e | e
    · exact Or.inl e.symm
    · have e' : g = w.heap.size + 1 := by simpa [Value.ownBlock] using e
      omega)
  clear hat
  go_wp2_with (go_at_call 20; refine (settle_c T4'.out rfl (Nat.lt_succ_self n) (up_new HH.out _)).mono ?_; rintro e w5 ⟨rfl, f2, T5, D5, I5, M5⟩; have T5' := hid T5; have D5' := hid D5; have I5' := hid I5; have M5' := hid M5; clear T5 D5 I5 M5)
  go_ret
  refine ⟨0, rfl, ⟨?_, fun h => absurd h (by decide), fun _ => ⟨rfl, Or.inr hn, _, n + 1, f2, T5'.out, fun k hk => (by
    rcases hk with hk | hk
    · have hk' : g = k := by simpa [Value.ownBlock] using hk
      subst hk'
      by_cases hlt : g < w.heap.size
      · exact Or.inl (G.out hlt)
      · exact Or.inr (by omega)
    · exact Or.inl (Or.inr hk)), D5'.out, fun h => absurd h HN.out, fun _ => rfl, fun p => (I5'.out p).trans (in_put_new HN.out p)⟩⟩⟩
  refine (M3'.out.setCell (fun h => Or.inr (G.out h)) _).step M5'.out ?_
  intro k hk hS
  rcases hS with hS | hS
  · cases hS; exact Or.inr (G.out hk)
  · exact Or.inr (Or.inr hS)
end Go.Proofs.Ytfolgjgkeheaoaa
