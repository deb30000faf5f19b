/- The sender: NewSender, Left, Put, Out, Hear. -/
import Derived.Test.YtkehejkjifgieaaRow
import Derived.Test.YtkehejkjifgieaaApd
import Derived.Test.YtkehejkjifgieaaTim3
import Derived.BigQuiet
import Derived.Deep.QuietTactic
namespace Go.Proofs.Ytkehejkjifgieaa
open Go.RowKit Go.ChangeMaps

/-- The sender at s, with its messages and its timers. -/
structure SR (w : World) (base s t mb : Nat) (sv lv : Value) (ts : List (Value × List W8)) (b0 : Nat) (m : List Ent) : Prop where
  blk : Blk w s #[lv, .int .u32 (b0 : Int), .pointer (some ⟨t, 0, none⟩)] 65
  row : Seg w base 29 lv (ts.map (·.1))
  bys : ∀ p ∈ ts, Ow w base p.1 p.2
  lens : ∀ p ∈ ts, p.2.length ≤ 500
  due : Rep w t mb sv m
  own : base ≤ s ∧ base ≤ t ∧ ∀ k, Own sv mb k → base ≤ k
  keys : ∀ e ∈ m, (b0 : Int) ≤ e.1 ∧ e.1 < (b0 : Int) + 8
  few : b0 + ts.length ≤ 100000
def SFoot (s t mb : Nat) (sv lv : Value) (ts : List (Value × List W8)) (k : Nat) : Prop := k = s ∨ lv.ownBlock = some k ∨ k = t ∨ Own sv mb k ∨ ∃ p ∈ ts, p.1.ownBlock = some k
section
variable {w w' : World} {base s t mb b0 : Nat} {sv lv : Value} {ts : List (Value × List W8)} {m : List Ent}
theorem SR.size (h : SR w base s t mb sv lv ts b0 m) : base ≤ w.heap.size := by have := h.own.1; have := h.blk.lt; omega
theorem SR.lt (h : SR w base s t mb sv lv ts b0 m) : ∀ k, SFoot s t mb sv lv ts k → base ≤ k ∧ k < w.heap.size := by
  rintro k (rfl | hk | rfl | hk | ⟨p, hp, hk⟩)
  · exact ⟨h.own.1, h.blk.lt⟩
  · exact h.row.lt k hk
  · exact ⟨h.own.2.1, h.due.lts.1⟩
  · exact ⟨h.own.2.2 k hk, h.due.lts.2 k hk⟩
  · exact (h.bys p hp).lt k hk
theorem SR.kind (h : SR w base s t mb sv lv ts b0 m) {k : Nat} (hk : SFoot s t mb sv lv ts k) {cs : Array Value} {T : TypeId} {fz : Nat × Nat} (hc : w.heap[k]? = some (.cells cs T fz)) : T = 65 ∨ T = 29 ∨ T = 92 ∨ T = 95 ∨ T = 5 := by
  rcases hk with rfl | hk | rfl | hk | ⟨p, hp, hk⟩
  · have := h.blk; unfold Blk at this; rw [hc] at this; cases this; exact Or.inl rfl
  · obtain ⟨cs', hb⟩ := h.row.kind hk
    unfold Blk at hb; rw [hc] at hb; cases hb; exact Or.inr (Or.inl rfl)
  · rcases h.due.kind (Or.inl rfl) hc with e | e
    · exact Or.inr (Or.inr (Or.inl e))
    · exact Or.inr (Or.inr (Or.inr (Or.inl e)))
  · rcases h.due.kind (Or.inr hk) hc with e | e
    · exact Or.inr (Or.inr (Or.inl e))
    · exact Or.inr (Or.inr (Or.inr (Or.inl e)))
  · obtain ⟨cs', hb⟩ := (h.bys p hp).kind hk
    unfold Blk at hb; rw [hc] at hb; cases hb; exact Or.inr (Or.inr (Or.inr (Or.inr rfl)))
theorem SR.mod {S : Nat → Prop} (h : SR w base s t mb sv lv ts b0 m) (M : Mod S w w') (hs : ∀ k, SFoot s t mb sv lv ts k → ¬ S k) : SR w' base s t mb sv lv ts b0 m where
  blk := M.blk h.blk (hs _ (Or.inl rfl))
  row := h.row.mod M (fun k hk => hs k (Or.inr (Or.inl hk)))
  bys := fun p hp => (h.bys p hp).mod M (fun k hk => hs k (Or.inr (Or.inr (Or.inr (Or.inr ⟨p, hp, hk⟩)))))
  lens := h.lens
  due := h.due.tm fun _ _ k => k.mod M (hs _ (Or.inr (Or.inr (Or.inl rfl)))) (hs _ (Or.inr (Or.inr (Or.inr (Or.inl (Or.inr rfl)))))) (fun _ hg => hs _ (Or.inr (Or.inr (Or.inr (Or.inl (Or.inl hg))))))
  own := h.own
  keys := h.keys
  few := h.few
theorem SR.below (h : SR w base s t mb sv lv ts b0 m) (hb : Below w.heap.size w w') : SR w' base s t mb sv lv ts b0 m := h.mod (Mod.of_below hb (fun _ => False)) (fun _ _ h => h)
theorem SR.apart_row {b' : Nat} {v : Value} {xs : List Value} (h : SR w base s t mb sv lv ts b0 m) (hr : Rw w b' 29 v xs) (hne : ∀ k, lv.ownBlock = some k → v.ownBlock ≠ some k) : ∀ k, SFoot s t mb sv lv ts k → ¬ v.ownBlock = some k := by
  intro k hk e
  obtain ⟨cs, hb⟩ := hr.kind e
  rcases hk with rfl | hk | rfl | hk | ⟨p, hp, hk⟩
  · exact absurd (Blk.inj hb h.blk).2 (by decide)
  · exact hne k hk e
  · exact (h.due.kind (Or.inl rfl) hb).elim (by decide) (by decide)
  · exact (h.due.kind (Or.inr hk) hb).elim (by decide) (by decide)
  · obtain ⟨cs', hb'⟩ := (h.bys p hp).kind hk
    exact absurd (Blk.inj hb hb').2 (by decide)
theorem SR.pushed {wq W : World} {v x : Value} {xs : List W8} (h : SR wq base s t mb sv lv ts b0 m) (hS : Seg W base 29 v (ts.map (·.1) ++ [x])) (hO : Ow W base x xs) (hxl : xs.length ≤ 500) (M : Mod (fun k => lv.ownBlock = some k) wq W) (hfew : b0 + ts.length < 100000) :
    SR (W.setCell ⟨s, 0, none⟩ v) base s t mb sv v (ts ++ [(x, xs)]) b0 m ∧ Mod (fun k => k = s ∨ lv.ownBlock = some k) wq (W.setCell ⟨s, 0, none⟩ v) ∧ (W.cell? ⟨s, 0, none⟩ = some lv ∧ W.frozen? ⟨s, 0, none⟩ = false) := by
  have hb : Blk W s #[lv, .int .u32 (b0 : Int), .pointer (some ⟨t, 0, none⟩)] 65 := M.blk h.blk (fun e => by
    obtain ⟨cs, hb⟩ := h.row.kind e
    exact absurd (Blk.inj hb h.blk).2 (by decide))
  have M1 : Mod (fun k => k = s) W (W.setCell ⟨s, 0, none⟩ v) := (Mod.refl (fun k => k = s) W).setCell (p := ⟨s, 0, none⟩) (fun _ => rfl) v
  have M2 : Mod (fun k => k = s ∨ lv.ownBlock = some k) wq (W.setCell ⟨s, 0, none⟩ v) := (M.weaken (fun k _ e => Or.inr e)).step M1 (fun k _ e => Or.inl e)
  have oby : ∀ p ∈ ts, Ow W base p.1 p.2 := fun p hp => (h.bys p hp).mod M (fun k hk e => by
    obtain ⟨cs, b1⟩ := (h.bys p hp).kind hk
    obtain ⟨cs', b2⟩ := h.row.kind e
    exact absurd (Blk.inj b1 b2).2 (by decide))
  have ost : ∀ {u : Value} {ys : List W8}, Ow W base u ys → Ow (W.setCell ⟨s, 0, none⟩ v) base u ys := fun hu => hu.mod M1 (fun k hk e => by
    obtain ⟨cs, b1⟩ := hu.kind hk
    rw [e] at b1
    exact absurd (Blk.inj b1 hb).2 (by decide))
  refine ⟨⟨hb.set 0 v, ?_, fun p hp => ?_, fun p hp => ?_, ?_, h.own, h.keys, by rw [List.length_append]; simp; omega⟩, M2, hb.cellv rfl, hb.frozen 0⟩
  · rw [List.map_append]
    exact hS.mod M1 (fun k hk e => by
      obtain ⟨cs, b1⟩ := hS.kind hk
      rw [e] at b1
      exact absurd (Blk.inj b1 hb).2 (by decide))
  · rcases List.mem_append.1 hp with hp | hp
    · exact ost (oby p hp)
    · rw [List.mem_singleton] at hp; subst hp; exact ost hO
  · rcases List.mem_append.1 hp with hp | hp
    · exact h.lens p hp
    · rw [List.mem_singleton] at hp; subst hp; exact hxl
  · refine h.due.apart M2 (fun k hk _ => ?_)
    rcases hk with rfl | hk
    · exact ⟨_, _, _, h.blk, by decide, by decide⟩
    · obtain ⟨cs, b1⟩ := h.row.kind hk
      exact ⟨_, _, _, b1, by decide, by decide⟩
theorem SR.timed {sv' : Value} {m' : List Ent} (h : SR w base s t mb sv lv ts b0 m) (M : Mod (fun k => k = t ∨ Own sv mb k) w w') (R : Rep w' t mb sv' m') (ho : ∀ k, Own sv' mb k → base ≤ k) (hk : ∀ e ∈ m', (b0 : Int) ≤ e.1 ∧ e.1 < (b0 : Int) + 8) : SR w' base s t mb sv' lv ts b0 m' where
  blk := h.due.keeps M h.blk (by decide) (by decide)
  row := h.row.of_block (fun k hk => by
    obtain ⟨cs, b1⟩ := h.row.kind hk
    exact (h.due.keeps M b1 (by decide) (by decide)).trans (Eq.symm b1))
  bys := fun p hp => (h.bys p hp).of_block (fun k hk => by
    obtain ⟨cs, b1⟩ := (h.bys p hp).kind hk
    exact (h.due.keeps M b1 (by decide) (by decide)).trans (Eq.symm b1))
  lens := h.lens
  due := R
  own := ⟨h.own.1, h.own.2.1, ho⟩
  keys := hk
  few := h.few
end
theorem lens_keys : ∀ (k : Nat) (b : Int) (m : List Ent), Sorted m → (∀ a ∈ m, ∀ c ∈ m, a.1 = c.1 → a = c) → (∀ e ∈ m, b ≤ e.1 ∧ e.1 < b + k) → m.length ≤ k
  | 0, b, m, _, _, h => by
    cases m with
    | nil => exact Nat.le_refl _
    | cons e m => have := h e List.mem_cons_self; omega
  | k + 1, b, m, hs, hi, h => by
    have ih := lens_keys k (b + 1) (without m b) (without_sorted hs b) (fun a ha c hc e => hi a ((mem_without _ _ _).1 ha).2 c ((mem_without _ _ _).1 hc).2 e) (fun e he => by
      obtain ⟨h1, h2⟩ := (mem_without _ _ _).1 he
      have := h e h2
      omega)
    by_cases hb : ∃ a ∈ m, a.1 = b
    · have := without_length hs hi hb
      omega
    · rw [without_none (fun p hp e => hb ⟨p, hp, e⟩)] at ih
      omega
theorem SR.few8 {w : World} {base s t mb b0 : Nat} {sv lv : Value} {ts : List (Value × List W8)} {m : List Ent} (h : SR w base s t mb sv lv ts b0 m) : m.length ≤ 8 := lens_keys 8 b0 m h.due.ord h.due.ids h.keys
def laterN (now : Nat) : Nat := if 18446744073709551605 < now then 18446744073709551615 else now + 10
set_option maxRecDepth 100000 in
theorem later_c (w : World) (now : Nat) (hn : now < 18446744073709551616) : Calls Try.prog 23 #[.int .u64 (now : Int)] w fun e w' => e = .returned (.int .u64 (laterN now : Int)) ∧ w' = w := by
  unfold laterN
  by_cases h : 18446744073709551605 < now
  · have hi : (18446744073709551605 : Int) < (now : Int) := by omega
    simp only [if_pos h]
    go_enter Try.func23, Try.ntmps23
    go_wp2
    go_ret
    exact ⟨rfl, rfl⟩
  · have hi : ¬ (18446744073709551605 : Int) < (now : Int) := by omega
    simp only [if_neg h]
    go_enter Try.func23, Try.ntmps23
    go_wp2
    go_ret
    exact ⟨ret_int (by go_num), rfl⟩
set_option maxRecDepth 100000 in
theorem newSender_c (w : World) : Calls Try.prog 7 #[] w fun e w' => ∃ s t mb sv, e = .returned (.pointer (some ⟨s, 0, none⟩)) ∧ SR w' w.heap.size s t mb sv (.slice none 0 0) [] 0 [] ∧ Below w.heap.size w w' := by
  go_enter Try.func7, Try.ntmps7
  go_wp2_with (go_at_call 18; refine (new_r w).mono ?_; rintro e w1 ⟨t, mb, sv, rfl, h1, h2, hb1, R1⟩; have B1 := hid hb1; have R1' := hid R1; have H1 := hid h1; have H2 := hid h2; clear hb1 R1 h1 h2)
  go_ret
  have hs := B1.out.size
  refine ⟨_, t, mb, sv, rfl, ⟨Blk.new w1 _ _, Seg.nil _ _ _, (fun p hp => by cases hp), (fun p hp => by cases hp), R1'.out.below ((Below.refl _ _).alloc (Nat.le_refl _) _), ⟨hs, H1.out, H2.out⟩, (fun e he => by cases he), by simp⟩, B1.out.alloc hs _⟩
set_option maxRecDepth 100000 in
theorem left_c {w : World} {base s t mb b0 : Nat} {sv lv : Value} {ts : List (Value × List W8)} {m : List Ent} (h : SR w base s t mb sv lv ts b0 m) :
    Calls Try.prog 15 #[.pointer (some ⟨s, 0, none⟩)] w fun e w' => e = .returned (.int .i64 (ts.length : Int)) ∧ w' = w := by
  obtain ⟨pl, cl, e, _⟩ := h.row.slice
  rw [List.length_map] at e
  have c0 : w.cell? ⟨s, 0, none⟩ = some (.slice pl ts.length cl) := by rw [← e]; exact h.blk.cellv rfl
  clear h e
  go_enter Try.func15, Try.ntmps15
  go_wp2
  go_ret
  exact ⟨rfl, rfl⟩

/-- What Put answers and leaves. -/
def putM (l : List (List W8)) (xs : List W8) : Int × List (List W8) := if 500 < xs.length then (4, l) else if 200 ≤ l.length then (7, l) else (0, l ++ [xs])
def PutD (w0 : World) (base s t mb : Nat) (sv lv : Value) (ts : List (Value × List W8)) (b0 : Nat) (m : List Ent) (xs : List W8) (v : Value) (W : World) : Prop :=
  ∃ wq x, Below w0.heap.size w0 wq ∧ SR wq base s t mb sv lv ts b0 m ∧ Seg W base 29 v (ts.map (·.1) ++ [x]) ∧ Ow W base x xs ∧ Mod (fun k => lv.ownBlock = some k) wq W ∧ (v.ownBlock = lv.ownBlock ∨ v.ownBlock = some wq.heap.size)
def PutE (w0 : World) (base s t mb : Nat) (sv lv : Value) (ts : List (Value × List W8)) (b0 : Nat) (m : List Ent) (xs : List W8) (W : World) : Prop :=
  ∃ wq lv' x, Below w0.heap.size w0 wq ∧ SR W base s t mb sv lv' (ts ++ [(x, xs)]) b0 m ∧ Mod (fun k => k = s ∨ lv.ownBlock = some k) wq W ∧ (lv'.ownBlock = lv.ownBlock ∨ lv'.ownBlock = some wq.heap.size)
set_option maxRecDepth 100000 in
set_option maxHeartbeats 2000000 in
theorem sput_c {w : World} {base s t mb b0 : Nat} {sv lv vb : Value} {ts : List (Value × List W8)} {m : List Ent} {xs : List W8} (h : SR w base s t mb sv lv ts b0 m) (hX : Bytes w vb xs) (hfew : b0 + ts.length < 100000) :
    Calls Try.prog 9 #[.pointer (some ⟨s, 0, none⟩), vb] w fun e w' => e = .returned (.int .i64 (putM (ts.map (·.2)) xs).1) ∧ (∃ lv' ts', SR w' base s t mb sv lv' ts' b0 m ∧ ts'.map (·.2) = (putM (ts.map (·.2)) xs).2 ∧ ∀ k, lv'.ownBlock = some k → lv.ownBlock = some k ∨ w.heap.size ≤ k) ∧ Mod (fun k => k = s ∨ lv.ownBlock = some k) w w' := by
  obtain ⟨pl, cl, e, _⟩ := h.row.slice
  rw [List.length_map] at e
  subst e
  obtain ⟨pb, cb, eb, hq⟩ := hX
  subst eb
  have HB := hid (show Bytes w (.slice pb xs.length cb) xs from ⟨pb, cb, rfl, hq⟩)
  have H := hid h
  have HF := hid hfew
  have HBS := hid h.size
  have c0 : w.cell? ⟨s, 0, none⟩ = some (.slice pl ts.length cl) := h.blk.cellv rfl
  unfold putM
  obtain ⟨n, hn⟩ : ∃ n, n = ts.length := ⟨_, rfl⟩
  obtain ⟨nb, hnb⟩ : ∃ nb, nb = xs.length := ⟨_, rfl⟩
  have HN := hid hn; have HNB := hid hnb
  rw [List.length_map]
  rw [← hn] at c0 H ⊢
  rw [← hnb] at HB ⊢
  clear hq h hfew hn hnb
  by_cases h5 : 500 < nb
  · have h5i : (500 : Int) < (nb : Int) := by omega
    simp only [if_pos h5]
    go_enter Try.func9, Try.ntmps9
    go_wp2
    go_ret
    exact ⟨rfl, ⟨_, ts, H.out, rfl, fun k hk => Or.inl hk⟩, Mod.refl _ _⟩
  · have h5i : ¬ (500 : Int) < (nb : Int) := by omega
    simp only [if_neg h5]
    by_cases h2 : 200 ≤ n
    · have h2i : (200 : Int) ≤ (n : Int) := by omega
      simp only [if_pos h2]
      go_enter Try.func9, Try.ntmps9
      go_wp2
      go_ret
      exact ⟨rfl, ⟨_, ts, H.out, rfl, fun k hk => Or.inl hk⟩, Mod.refl _ _⟩
    · have h2i : ¬ (200 : Int) ≤ (n : Int) := by omega
      simp only [if_neg h2]
      have hbl := hid (show xs.length ≤ 100000 by have := HNB.out; omega)
      have hxl := hid (show xs.length ≤ 500 by have := HNB.out; omega)
      go_enter Try.func9, Try.ntmps9
      go_upto_region 7 with fail
      refine region_inv (n := 30) (I := Apd [.pointer (some ⟨s, 0, none⟩), .pointer (some ⟨s, 0, none⟩), .pointer (some ⟨s, 0, none⟩), .pointer (some ⟨s, 0, none⟩), .slice pl n cl, .slice pb nb cb, undef, undef, undef, .pointer (some ⟨s, 0, none⟩), .pointer (some ⟨s, 0, none⟩), undef] 4 6 7 8 11
        (fun W => Below w.heap.size w W ∧ SR W base s t mb sv (.slice pl n cl) ts b0 m)
        (fun v W => Ow W base v xs ∧ Below w.heap.size w W ∧ SR W base s t mb sv (.slice pl n cl) ts b0 m)
        (fun v W => ∃ g x, v = .slice (some ⟨g, 0, none⟩) 1 1 ∧ W.cell? ⟨g, 0, none⟩ = some x ∧ Ow W base x xs ∧ Below w.heap.size w W ∧ SR W base s t mb sv (.slice pl n cl) ts b0 m)
        (PutD w base s t mb sv (.slice pl n cl) ts b0 m xs)
        (PutE w base s t mb sv (.slice pl n cl) ts b0 m xs)) (by kernel_rfl) (by kernel_rfl) (by kernel_rfl) (by kernel_rfl) (Apd.start ⟨(Below.refl _ _).drew, H.out.below (Below.refl _ _).drew⟩) ?hop ?hend
      case hop =>
        refine And.intro ?_ ?_
        · intro L V ρ w' hI hk hc hf hd hs
          have s0 : ρ (.tmp 0) = .pointer (some ⟨s, 0, none⟩) := hs 0 (by kernel_rfl)
          clear hd hs
          rw [BigFrame.run_move (.tmp 0) rfl]
          exact hI.val (by decide) (by decide) (by decide) (by decide) s0
        refine And.intro ?_ ?_
        · intro L V ρ w' hI hk hc hf hd hs
          have s0 : ρ (.tmp 0) = .pointer (some ⟨s, 0, none⟩) := hs 0 (by kernel_rfl)
          clear hd hs
          rw [BigFrame.run_move (.tmp 0) rfl]
          exact hI.val (by decide) (by decide) (by decide) (by decide) s0
        refine And.intro ?_ ?_
        · intro L V ρ w' hI hk hc hf hd hs
          have h20 := (hd 1 (by kernel_rfl)).1
          have s20 : ρ (.tmp 20) = .pointer (some ⟨s, 0, none⟩) := ((hd 1 (by kernel_rfl)).2 20 (by kernel_rfl)).trans (hI.at (by decide) (by decide) (by decide) (by decide) (hd 1 (by kernel_rfl)).1)
          clear hd hs
          exact outcome_value (v := .pointer (some ⟨s, 0, none⟩)) (by simp [go_sem, s20]) (hI.val (by decide) (by decide) (by decide) (by decide) rfl)
        refine And.intro ?_ ?_
        · intro L V ρ w' hI hk hc hf hd hs
          have h21 := (hd 2 (by kernel_rfl)).1
          have s21 : ρ (.tmp 21) = .pointer (some ⟨s, 0, none⟩) := ((hd 2 (by kernel_rfl)).2 21 (by kernel_rfl)).trans (hI.at (by decide) (by decide) (by decide) (by decide) (hd 2 (by kernel_rfl)).1)
          clear hd hs
          exact outcome_value (v := .pointer (some ⟨s, 0, none⟩)) (by simp [go_sem, s21]) (hI.val (by decide) (by decide) (by decide) (by decide) rfl)
        refine And.intro ?_ ?_
        · intro L V ρ w' hI hk hc hf hd hs
          have h22 := (hd 3 (by kernel_rfl)).1
          have s22 : ρ (.tmp 22) = .pointer (some ⟨s, 0, none⟩) := ((hd 3 (by kernel_rfl)).2 22 (by kernel_rfl)).trans (hI.at (by decide) (by decide) (by decide) (by decide) (hd 3 (by kernel_rfl)).1)
          have hcell : w'.cell? ⟨s, 0, none⟩ = some (.slice pl n cl) := hI.cell (C := fun W => W.cell? ⟨s, 0, none⟩ = some (.slice pl n cl)) (fun W h => h.2.blk.cellv rfl) (fun v W h => h.2.2.blk.cellv rfl) (fun v W h => by obtain ⟨_, _, _, _, _, _, h⟩ := h; exact h.blk.cellv rfl) hk
          clear hd hs
          exact outcome_value (v := .slice pl n cl) (by simp [go_sem, s22, hcell]) (hI.val (by decide) (by decide) (by decide) (by decide) rfl)
        refine And.intro ?_ ?_
        · intro L V ρ w' hI hk hc hf hd hs
          have s1 : ρ (.tmp 1) = .slice pb nb cb := hs 1 (by kernel_rfl)
          clear hd hs
          rw [BigFrame.run_move (.tmp 1) rfl]
          exact hI.val (by decide) (by decide) (by decide) (by decide) s1
        refine And.intro ?_ ?_
        · intro L V ρ w' hI hk hc hf hd hs
          have h24 := (hd 5 (by kernel_rfl)).1
          have s24 : ρ (.tmp 24) = .slice pb nb cb := ((hd 5 (by kernel_rfl)).2 24 (by kernel_rfl)).trans (hI.at (by decide) (by decide) (by decide) (by decide) (hd 5 (by kernel_rfl)).1)
          clear hd hs
          have hP := hI.before hk
          refine outcome_enter (w := w') (f := 19) (args := #[.slice pb nb cb]) (by simp [go_sem, hf, s24]) ?_
          refine (clone_c (HB.out.below hP.1) hbl.out).mono ?_
          rintro e w2 ⟨v2, rfl, O2, hb2⟩
          exact ⟨_, rfl, hI.call hk (by decide) (by decide) (by decide) ⟨O2.lower (Nat.le_trans HBS.out hP.1.size), hP.1.trans (hb2.mono hP.1.size), hP.2.below hb2⟩⟩
        refine And.intro ?_ ?_
        · intro L V ρ w' hI hk hc hf hd hs
          have h25 := (hd 6 (by kernel_rfl)).1
          have s25 : ρ (.tmp 25) = V 6 := (hd 6 (by kernel_rfl)).2 25 (by kernel_rfl)
          clear hd hs
          obtain ⟨⟨hv3, hP⟩, hnext⟩ := hI.build h25 hk (by decide) (by decide) (by decide)
          obtain ⟨p2, c2, e2⟩ := hv3.slice
          rw [e2] at s25
          exact outcome_value (v := .slice (some ⟨w'.heap.size, 0, none⟩) 1 1) (w := w'.alloc (.cells #[.slice p2 xs.length c2] 29)) (by simp [go_sem, s25]) (hnext _ _ ⟨w'.heap.size, .slice p2 xs.length c2, rfl, (Blk.new w' _ _).cellv rfl, by rw [← e2]; exact hv3.alloc _, hP.1.alloc hP.1.size _, hP.2.below ((Below.refl _ _).alloc (Nat.le_refl _) _)⟩)
        refine And.intro ?_ ?_
        · intro L V ρ w' hI hk hc hf hd hs
          have h23 := (hd 4 (by kernel_rfl)).1
          have s23 : ρ (.tmp 23) = .slice pl n cl := ((hd 4 (by kernel_rfl)).2 23 (by kernel_rfl)).trans (hI.at (by decide) (by decide) (by decide) (by decide) (hd 4 (by kernel_rfl)).1)
          have h26 := (hd 7 (by kernel_rfl)).1
          have s26 : ρ (.tmp 26) = V 7 := (hd 7 (by kernel_rfl)).2 26 (by kernel_rfl)
          have h1 := (hd 4 (by kernel_rfl)).1
          clear hd hs
          obtain ⟨⟨g, x, hv4, hx, hO, hL, hP⟩, hnext⟩ := hI.app h26 h1 hk (by decide) (by decide) (by decide) (by decide)
          rw [hv4] at s26
          obtain ⟨p2, c2, e2⟩ := hO.slice
          refine outcome_seg (t := 22) (e := 29) (by rfl) Try.underlying22 info_slice rfl (by decide) s23 s26 hP.row hx (by rw [e2]; rfl) (by have := hP.few; rw [List.length_map]; omega) hP.size ?_
          intro v5 w5 S5 M5 o5
          refine hnext _ _ ⟨w', x, hL, hP, S5, ?_, M5, o5⟩
          exact hO.mod M5 (fun k hk e => by
            obtain ⟨cs, b1⟩ := hO.kind hk
            obtain ⟨cs', b2⟩ := hP.row.kind e
            exact absurd (Blk.inj b1 b2).2 (by decide))
        refine And.intro ?_ ?_
        · intro L V ρ w' hI hk hc hf hd hs
          have h19 := (hd 0 (by kernel_rfl)).1
          have s19 : ρ (.tmp 19) = .pointer (some ⟨s, 0, none⟩) := ((hd 0 (by kernel_rfl)).2 19 (by kernel_rfl)).trans (hI.at (by decide) (by decide) (by decide) (by decide) (hd 0 (by kernel_rfl)).1)
          clear hd hs
          exact outcome_value (v := .pointer (some ⟨s, 0, none⟩)) (by simp [go_sem, s19]) (hI.val (by decide) (by decide) (by decide) (by decide) rfl)
        refine And.intro ?_ ?_
        · intro L V ρ w' hI hk hc hf hd hs
          have h28 := (hd 9 (by kernel_rfl)).1
          have s28 : ρ (.tmp 28) = .pointer (some ⟨s, 0, none⟩) := ((hd 9 (by kernel_rfl)).2 28 (by kernel_rfl)).trans (hI.at (by decide) (by decide) (by decide) (by decide) (hd 9 (by kernel_rfl)).1)
          clear hd hs
          exact outcome_value (v := .pointer (some ⟨s, 0, none⟩)) (by simp [go_sem, s28]) (hI.val (by decide) (by decide) (by decide) (by decide) rfl)
        refine And.intro ?_ ?_
        · intro L V ρ w' hI hk hc hf hd hs
          have h29 := (hd 10 (by kernel_rfl)).1
          have s29 : ρ (.tmp 29) = .pointer (some ⟨s, 0, none⟩) := ((hd 10 (by kernel_rfl)).2 29 (by kernel_rfl)).trans (hI.at (by decide) (by decide) (by decide) (by decide) (hd 10 (by kernel_rfl)).1)
          have h27 := (hd 8 (by kernel_rfl)).1
          have s27 : ρ (.tmp 27) = V 8 := (hd 8 (by kernel_rfl)).2 27 (by kernel_rfl)
          clear hd hs
          obtain ⟨hP, hnext⟩ := hI.store h27 hk (by decide) (by decide) (by decide) (by decide)
          obtain ⟨wq, x, hL, hP, S5, O5, M5, o5⟩ := hP
          obtain ⟨pq, cq, e5, _⟩ := S5.slice
          obtain ⟨D1, D2, d1, d2⟩ := SR.pushed hP S5 O5 hxl.out M5 (by have := HN.out; have := HF.out; omega)
          refine outcome_skip (w := w'.setCell ⟨s, 0, none⟩ (V 8)) ?_ (hnext _ _ ⟨wq, _, x, hL, D1, D2, o5⟩)
          rw [e5] at s27 ⊢
          simp [go_sem, s27, s29, d1, d2]
        exact trivial
      case hend =>
        intro L V w13 hL hI
        obtain ⟨wq, lv', x, hb, hS, hM, ho⟩ := hI.end (hL 11 (by decide))
        have D := hid (And.intro hb (And.intro hS (And.intro hM ho)))
        simp only [lexF, Act.put, List.setIfInBounds_toArray, List.set_cons_zero, List.set_cons_succ]
        clear hI hL hb hS hM ho
        go_wp2
        go_ret
        obtain ⟨hb, hS, hM, ho⟩ := D.out
        refine ⟨rfl, ⟨lv', _, hS, by simp, fun k hk => ?_⟩, (Mod.of_below hb _).trans hM⟩
        rcases ho with e | e
        · rw [e] at hk; exact Or.inl hk
        · rw [e] at hk
          have := Option.some.inj hk
          have := hb.size
          exact Or.inr (by omega)
end Go.Proofs.Ytkehejkjifgieaa
