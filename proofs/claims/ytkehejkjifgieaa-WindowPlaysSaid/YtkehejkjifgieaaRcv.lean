/- The receiver: NewReceiver, Came, next. -/
import Derived.Test.YtkehejkjifgieaaSndO
namespace Go.Proofs.Ytkehejkjifgieaa
open Go.RowKit Go.ChangeMaps

/-- The receiver at r, with how many came and those that came ahead. -/
structure RR (w : World) (base r mb n : Nat) (A : Int → Option (List W8)) : Prop where
  blk : Blk w r #[.int .u32 (n : Int), .map (some mb)] 68
  map : ∃ D, IMap w mb .u32 D ∧ ∀ x, (D x = none ∧ A x = none) ∨ ∃ v l, D x = some v ∧ A x = some l ∧ Ow w base v l
  own : base ≤ r ∧ base ≤ mb
  keys : ∀ x, A x ≠ none → (n : Int) ≤ x ∧ x < (n : Int) + 8
section
variable {w w' : World} {base r mb n : Nat} {A : Int → Option (List W8)}
theorem RR.size (h : RR w base r mb n A) : base ≤ w.heap.size := by have := h.own.1; have := h.blk.lt; omega
theorem RR.mod {S : Nat → Prop} (h : RR w base r mb n A) (M : Mod S w w') (h1 : ¬ S r) (h2 : ¬ S mb) (h3 : ∀ k cs, Blk w k cs 5 → ¬ S k) : RR w' base r mb n A := by
  obtain ⟨D, hD, hA⟩ := h.map
  refine ⟨M.blk h.blk h1, ⟨D, hD.of_block (M.block mb hD.lt h2), fun x => ?_⟩, h.own, h.keys⟩
  rcases hA x with e | ⟨v, l, e1, e2, e3⟩
  · exact Or.inl e
  · exact Or.inr ⟨v, l, e1, e2, e3.mod M (fun k hk => by obtain ⟨cs, hb⟩ := e3.kind hk; exact h3 k cs hb)⟩
theorem RR.below (h : RR w base r mb n A) (hb : Below w.heap.size w w') : RR w' base r mb n A := h.mod (Mod.of_below hb (fun _ => False)) (fun h => h) (fun h => h) (fun _ _ _ h => h)
theorem RR.mbne (h : RR w base r mb n A) {k : Nat} {cs : Array Value} {T : TypeId} (hb : Blk w k cs T) : k ≠ mb := by
  obtain ⟨D, hD, _⟩ := h.map
  exact hD.not_cells hb
theorem RR.mlt (h : RR w base r mb n A) : mb < w.heap.size := by
  obtain ⟨D, hD, _⟩ := h.map
  exact hD.lt
end
/-- What was there is gone. -/
def delA (A : Int → Option (List W8)) (x : Int) : Int → Option (List W8) := fun y => if y = x then none else A y
def updA (A : Int → Option (List W8)) (x : Int) (l : List W8) : Int → Option (List W8) := fun y => if y = x then some l else A y
/-- All that are next in order. -/
def nextA : Nat → Nat → (Int → Option (List W8)) → List (List W8) × Nat × (Int → Option (List W8))
  | 0, n, A => ([], n, A)
  | f + 1, n, A => match A (n : Int) with
    | none => ([], n, A)
    | some l => (l :: (nextA f (n + 1) (delA A (n : Int))).1, (nextA f (n + 1) (delA A (n : Int))).2)
theorem nextA_none {f n : Nat} {A : Int → Option (List W8)} (h : A (n : Int) = none) : nextA f n A = ([], n, A) := by
  cases f with
  | zero => rfl
  | succ f => show (match A (n : Int) with | none => _ | some l => _) = _; rw [h]
theorem nextA_some {f n : Nat} {A : Int → Option (List W8)} {l : List W8} (h : A (n : Int) = some l) : nextA (f + 1) n A = (l :: (nextA f (n + 1) (delA A (n : Int))).1, (nextA f (n + 1) (delA A (n : Int))).2) := by
  show (match A (n : Int) with | none => _ | some l => _) = _
  rw [h]
set_option maxRecDepth 100000 in
theorem newReceiver_c (w : World) : Calls Try.prog 8 #[] w fun e w' => ∃ r mb, e = .returned (.pointer (some ⟨r, 0, none⟩)) ∧ RR w' w.heap.size r mb 0 (fun _ => none) ∧ Below w.heap.size w w' := by
  have hm : (Instr.makeMap 66 none).run Try.prog w = .ok (.map (some w.heap.size)) (w.alloc (.map #[] 0)) := rfl
  go_enter Try.func8, Try.ntmps8
  go_wp2
  go_ret
  refine ⟨_, w.heap.size, rfl, ⟨by have := Blk.new (w.alloc (.map #[] 0)) #[.int .u32 0, .map (some w.heap.size)] 68; simpa using this, ⟨fun _ => none, IMap.empty ((Below.heap_alloc _ _ _ (by simp)).trans (heap_alloc_new w _)), fun x => Or.inl ⟨rfl, rfl⟩⟩, ⟨by simp, Nat.le_refl _⟩, fun x hx => absurd rfl hx⟩, ((Below.refl _ _).alloc (Nat.le_refl _) _).alloc (by simp) _⟩
set_option maxRecDepth 100000 in
theorem rcame_c {w : World} {base r mb n : Nat} {A : Int → Option (List W8)} (h : RR w base r mb n A) (hn : n ≤ 1000000) :
    Calls Try.prog 14 #[.pointer (some ⟨r, 0, none⟩)] w fun e w' => e = .returned (.int .i64 (n : Int)) ∧ w' = w := by
  have c0 : w.cell? ⟨r, 0, none⟩ = some (.int .u32 (n : Int)) := h.blk.cellv rfl
  clear h
  go_enter Try.func14, Try.ntmps14
  go_wp2
  go_ret
  exact ⟨ret_int (by go_num), rfl⟩
/-- A row just made of byte strings that lay there. -/
def Ut (w : World) (b1 b2 : Nat) (v : Value) (us : List (Value × List W8)) : Prop := Rw w b1 29 v (us.map (·.1)) ∧ ∀ p ∈ us, Ow w b2 p.1 p.2
section
variable {w w' : World} {b1 b2 : Nat} {v : Value} {us : List (Value × List W8)}
theorem Ut.mod {S : Nat → Prop} (h : Ut w b1 b2 v us) (M : Mod S w w') (hs : ∀ k cs T, Blk w k cs T → T = 29 ∨ T = 5 → ¬ S k) : Ut w' b1 b2 v us :=
  ⟨h.1.mod M (fun k hk => by obtain ⟨cs, hb⟩ := h.1.kind hk; exact hs k cs _ hb (Or.inl rfl)), fun p hp => (h.2 p hp).mod M (fun k hk => by obtain ⟨cs, hb⟩ := (h.2 p hp).kind hk; exact hs k cs _ hb (Or.inr rfl))⟩
theorem Ut.below (h : Ut w b1 b2 v us) (hb : Below w.heap.size w w') : Ut w' b1 b2 v us := ⟨h.1.below hb, fun p hp => (h.2 p hp).below hb⟩
theorem Ow.pushed {u : Value} {ys : List W8} {x : List Value} (hu : Ow w b2 u ys) (h : Rw w b1 29 v x) (M : Mod (fun k => v.ownBlock = some k) w w') : Ow w' b2 u ys := hu.mod M (fun k hk e => by
  obtain ⟨cs, b1⟩ := hu.kind hk
  obtain ⟨cs', b2⟩ := h.kind e
  exact absurd (Blk.inj b1 b2).2 (by decide))
theorem Ut.push {v' x : Value} {xs : List W8} (h : Ut w b1 b2 v us) (hR : Rw w' b1 29 v' (us.map (·.1) ++ [x])) (M : Mod (fun k => v.ownBlock = some k) w w') (hO : Ow w b2 x xs) : Ut w' b1 b2 v' (us ++ [(x, xs)]) := by
  refine ⟨by rw [List.map_append]; exact hR, fun p hp => ?_⟩
  rcases List.mem_append.1 hp with hp | hp
  · exact (h.2 p hp).pushed h.1 M
  · rw [List.mem_singleton] at hp; subst hp; exact hO.pushed h.1 M
end
set_option maxRecDepth 100000 in
/-- What the look-up of the next one yields. -/
theorem RR.look {w : World} {base r mb n : Nat} {A : Int → Option (List W8)} (h : RR w base r mb n A) (x : Int) :
    (A x = none ∧ ∀ q, (Instr.lookup 66 (.map (some mb)) (.int .u32 x) true).run Try.prog (w.drewN q) = .ok (.tuple #[.slice none 0 0, .bool false]) (w.drewN q)) ∨
    ∃ p c l, A x = some l ∧ Ow w base (.slice p l.length c) l ∧ ∀ q, (Instr.lookup 66 (.map (some mb)) (.int .u32 x) true).run Try.prog (w.drewN q) = .ok (.tuple #[.slice p l.length c, .bool true]) (w.drewN q) := by
  obtain ⟨D, hD, hA⟩ := h.map
  rcases hA x with ⟨e1, e2⟩ | ⟨v, l, e1, e2, e3⟩
  · refine Or.inl ⟨e2, fun q => ?_⟩
    have hD' : IMap (w.drewN q) mb .u32 D := hD.of_block rfl
    have := hD'.look (P := Try.prog) (t := 66) (z := .slice none 0 0) rfl rfl rfl x
    rw [e1] at this; exact this
  · obtain ⟨p, c, rfl⟩ := e3.slice
    refine Or.inr ⟨p, c, l, e2, e3, fun q => ?_⟩
    have hD' : IMap (w.drewN q) mb .u32 D := hD.of_block rfl
    have := hD'.look (P := Try.prog) (t := 66) (z := .slice none 0 0) rfl rfl rfl x
    rw [e1] at this; exact this
set_option maxRecDepth 100000 in
set_option maxHeartbeats 4000000 in
theorem rnext_c {w : World} {base r mb n0 : Nat} {A0 : Int → Option (List W8)} (h : RR w base r mb n0 A0) (hn : n0 ≤ 1000000) :
    Calls Try.prog 25 #[.pointer (some ⟨r, 0, none⟩)] w fun e w' => (∃ v us, e = .returned v ∧ Ut w' w.heap.size base v us ∧ us.map (·.2) = (nextA 8 n0 A0).1 ∧ RR w' base r mb (nextA 8 n0 A0).2.1 (nextA 8 n0 A0).2.2) ∧ Mod (fun k => k = r ∨ k = mb) w w' := by
  have H := hid h
  have hlt := h.blk.lt
  have c0 : w.cell? ⟨r, 0, none⟩ = some (.int .u32 (n0 : Int)) := h.blk.cellv rfl
  have c1 : w.cell? ⟨r, 1, none⟩ = some (.map (some mb)) := h.blk.cellv rfl
  obtain ⟨q, hq⟩ : ∃ q, q = nextA 8 n0 A0 := ⟨_, rfl⟩
  rw [← hq]
  have HQ := hid hq
  clear h hq
  go_enter Try.func25, Try.ntmps25
  go_upto_region 2 with fail
  go_cut [4, 5] from 6 to 17 (fun v4 v5 wr => Hid (Below w.heap.size w wr) ∧ ((Hid (A0 (n0 : Int) = none) ∧ v4 = .slice none 0 0 ∧ v5 = .bool false) ∨ ∃ p c l, Hid (A0 (n0 : Int) = some l) ∧ Hid (Ow wr base (.slice p l.length c) l) ∧ v4 = .slice p l.length c ∧ v5 = .bool true))
  case first =>
    rcases H.out.look (n0 : Int) with ⟨e1, e2⟩ | ⟨p, c, l, e1, e2, e3⟩
    · have E1 := hid e1
      clear e1
      go_quiet (fail)
      have BQ := hid (show Below w.heap.size w (w.drewN nq) from below_drewN (Below.refl _ _) _)
      go_wp2
      go_meet
      case rel => exact ⟨BQ, Or.inl ⟨E1, rfl, rfl⟩⟩
    · have E1 := hid e1
      have E2 := hid e2
      clear e1 e2
      go_quiet (fail)
      have BQ := hid (show Below w.heap.size w (w.drewN nq) from below_drewN (Below.refl _ _) _)
      go_wp2
      go_meet
      case rel => exact ⟨BQ, Or.inr ⟨p, c, l, E1, hid (E2.out.below BQ.out), rfl, rfl⟩⟩
  case rest =>
    obtain ⟨BC, hc⟩ := hcut
    clear c0 c1
    go_wp2
    go_loopg [3, 4, 5] 8 (fun g v3 v4 v5 wr => ∃ (k n : Nat) (us : List (Value × List W8)) (A : Int → Option (List W8)), g = 8 - k ∧ k ≤ 8 ∧ n = n0 + k ∧ Hid (Ut wr w.heap.size base v3 us) ∧ Hid (us.length ≤ k) ∧ Hid (RR wr base r mb n A) ∧ Hid (∀ x, A x ≠ none → x < (n0 : Int) + 8) ∧
      Hid (q = (us.map (·.2) ++ (nextA (8 - k) n A).1, (nextA (8 - k) n A).2)) ∧ Hid (Mod (fun k => k = r ∨ k = mb) w wr) ∧ ((Hid (A (n : Int) = none) ∧ v4 = .slice none 0 0 ∧ v5 = .bool false) ∨ ∃ p c l, Hid (A (n : Int) = some l) ∧ Hid (Ow wr base (.slice p l.length c) l) ∧ v4 = .slice p l.length c ∧ v5 = .bool true))
    case atStart => exact ⟨0, n0, [], A0, rfl, by omega, rfl, hid ⟨Rw.nil _ _ _, fun p hp => by cases hp⟩, hid (Nat.le_refl _), hid (H.out.below BC.out), hid (fun x hx => (H.out.keys x hx).2), hid HQ.out, hid (Mod.of_below BC.out _), hc⟩
    case round =>
      obtain ⟨k, n, us, A, hg, hk, hn', U, UL, SK, KK, QK, MK, hc'⟩ := hrel
      rcases hc' with ⟨AN, rfl, rfl⟩ | ⟨p, c, l, AS, OL, rfl, rfl⟩
      · go_wp2
        go_ret
        have hq := QK.out
        rw [nextA_none AN.out] at hq
        have hq1 : q = (us.map (·.2), n, A) := by rw [hq]; simp
        rw [hq1]
        exact ⟨⟨_, us, rfl, U.out, rfl, SK.out⟩, MK.out⟩
      · have hk8 : k < 8 := by have := KK.out n (by rw [AS.out]; intro h; cases h); omega
        have hnl : n ≤ 1000008 := by omega
        obtain ⟨D, hD, hDA⟩ := SK.out.map
        have DA := hid hDA
        have DD := hid hD
        have IM := hid (fun (W : World) (hb : Below wr.heap.size wr W) => show IMap W mb .u32 D from DD.out.of_block (hb.block mb DD.out.lt))
        have CT := hid (fun (W : World) (hb : Below wr.heap.size wr W) => And.intro (show W.cell? ⟨r, 0, none⟩ = some (.int .u32 (n : Int)) from (SK.out.below hb).blk.cellv rfl) (show W.cell? ⟨r, 1, none⟩ = some (.map (some mb)) from (SK.out.below hb).blk.cellv rfl))
        have HN := hid hn'
        have HK := hid hk8
        clear hD hDA hn' hk8 hk
        go_upto_region 5 with fail
        refine region_inv (n := 51) (I := LastD [[], [0], [1], [2], [], [4], [5], [6]] wr 8 (fun k v _ => v = ([.pointer (some ⟨r, 0, none⟩), .pointer (some ⟨r, 0, none⟩), .pointer (some ⟨r, 1, none⟩), .map (some mb), .pointer (some ⟨r, 0, none⟩), .pointer (some ⟨r, 0, none⟩), .pointer (some ⟨r, 0, none⟩), .int .u32 (n : Int), undef] : List Value).getD k undef) (fun W => Mod (fun k => k = mb) wr W ∧ IMap W mb .u32 (del D (n : Int)))) (by kernel_rfl) (by kernel_rfl) (by kernel_rfl) (by kernel_rfl) LastD.start ?hop ?hend
        case hop =>
            refine And.intro ?_ ?_
            · intro L V ρ w' hI hk hc hf hd hs
              have s0 : ρ (.tmp 0) = .pointer (some ⟨r, 0, none⟩) := hs 0 (by kernel_rfl)
              have hdp : ∀ i ∈ ([[], [0], [1], [2], [], [4], [5], [6]] : List (List Nat)).getD 0 [], L i = true := (all0)
              clear hd hs
              rw [BigFrame.run_move (.tmp 0) rfl]
              exact hI.val (fun _ _ _ _ h _ => h) hk (by decide) (Below.refl _ _) s0 hdp
            refine And.intro ?_ ?_
            · intro L V ρ w' hI hk hc hf hd hs
              have h31 := (hd 0 (by kernel_rfl)).1
              have s31 : ρ (.tmp 31) = .pointer (some ⟨r, 0, none⟩) := ((hd 0 (by kernel_rfl)).2 31 (by kernel_rfl)).trans (hI.1.at (j := 0) hk (by decide) (by decide) (hd 0 (by kernel_rfl)).1)
              have hdp : ∀ i ∈ ([[], [0], [1], [2], [], [4], [5], [6]] : List (List Nat)).getD 1 [], L i = true := (all1 (hd 0 (by kernel_rfl)).1)
              clear hd hs
              exact outcome_value (v := .pointer (some ⟨r, 0, none⟩)) (by simp [go_sem, s31]) (hI.val (fun _ _ _ _ h _ => h) hk (by decide) (Below.refl _ _) rfl hdp)
            refine And.intro ?_ ?_
            · intro L V ρ w' hI hk hc hf hd hs
              have h32 := (hd 1 (by kernel_rfl)).1
              have s32 : ρ (.tmp 32) = .pointer (some ⟨r, 0, none⟩) := ((hd 1 (by kernel_rfl)).2 32 (by kernel_rfl)).trans (hI.1.at (j := 1) hk (by decide) (by decide) (hd 1 (by kernel_rfl)).1)
              have hdp : ∀ i ∈ ([[], [0], [1], [2], [], [4], [5], [6]] : List (List Nat)).getD 2 [], L i = true := (all1 (hd 1 (by kernel_rfl)).1)
              clear hd hs
              exact outcome_value (v := .pointer (some ⟨r, 1, none⟩)) (by simp [go_sem, s32]) (hI.val (fun _ _ _ _ h _ => h) hk (by decide) (Below.refl _ _) rfl hdp)
            refine And.intro ?_ ?_
            · intro L V ρ w' hI hk hc hf hd hs
              have h33 := (hd 2 (by kernel_rfl)).1
              have s33 : ρ (.tmp 33) = .pointer (some ⟨r, 1, none⟩) := ((hd 2 (by kernel_rfl)).2 33 (by kernel_rfl)).trans (hI.1.at (j := 2) hk (by decide) (by decide) (hd 2 (by kernel_rfl)).1)
              have hdp : ∀ i ∈ ([[], [0], [1], [2], [], [4], [5], [6]] : List (List Nat)).getD 3 [], L i = true := (all1 (hd 2 (by kernel_rfl)).1)
              clear hd hs
              have cell0 := (CT.out w' (hI.1.below hk (by decide))).2
              exact outcome_value (v := .map (some mb)) (by simp [go_sem, s33, cell0]) (hI.val (fun _ _ _ _ h _ => h) hk (by decide) (Below.refl _ _) rfl hdp)
            refine And.intro ?_ ?_
            · intro L V ρ w' hI hk hc hf hd hs
              have s0 : ρ (.tmp 0) = .pointer (some ⟨r, 0, none⟩) := hs 0 (by kernel_rfl)
              have hdp : ∀ i ∈ ([[], [0], [1], [2], [], [4], [5], [6]] : List (List Nat)).getD 4 [], L i = true := (all0)
              clear hd hs
              rw [BigFrame.run_move (.tmp 0) rfl]
              exact hI.val (fun _ _ _ _ h _ => h) hk (by decide) (Below.refl _ _) s0 hdp
            refine And.intro ?_ ?_
            · intro L V ρ w' hI hk hc hf hd hs
              have h35 := (hd 4 (by kernel_rfl)).1
              have s35 : ρ (.tmp 35) = .pointer (some ⟨r, 0, none⟩) := ((hd 4 (by kernel_rfl)).2 35 (by kernel_rfl)).trans (hI.1.at (j := 4) hk (by decide) (by decide) (hd 4 (by kernel_rfl)).1)
              have hdp : ∀ i ∈ ([[], [0], [1], [2], [], [4], [5], [6]] : List (List Nat)).getD 5 [], L i = true := (all1 (hd 4 (by kernel_rfl)).1)
              clear hd hs
              exact outcome_value (v := .pointer (some ⟨r, 0, none⟩)) (by simp [go_sem, s35]) (hI.val (fun _ _ _ _ h _ => h) hk (by decide) (Below.refl _ _) rfl hdp)
            refine And.intro ?_ ?_
            · intro L V ρ w' hI hk hc hf hd hs
              have h36 := (hd 5 (by kernel_rfl)).1
              have s36 : ρ (.tmp 36) = .pointer (some ⟨r, 0, none⟩) := ((hd 5 (by kernel_rfl)).2 36 (by kernel_rfl)).trans (hI.1.at (j := 5) hk (by decide) (by decide) (hd 5 (by kernel_rfl)).1)
              have hdp : ∀ i ∈ ([[], [0], [1], [2], [], [4], [5], [6]] : List (List Nat)).getD 6 [], L i = true := (all1 (hd 5 (by kernel_rfl)).1)
              clear hd hs
              exact outcome_value (v := .pointer (some ⟨r, 0, none⟩)) (by simp [go_sem, s36]) (hI.val (fun _ _ _ _ h _ => h) hk (by decide) (Below.refl _ _) rfl hdp)
            refine And.intro ?_ ?_
            · intro L V ρ w' hI hk hc hf hd hs
              have h37 := (hd 6 (by kernel_rfl)).1
              have s37 : ρ (.tmp 37) = .pointer (some ⟨r, 0, none⟩) := ((hd 6 (by kernel_rfl)).2 37 (by kernel_rfl)).trans (hI.1.at (j := 6) hk (by decide) (by decide) (hd 6 (by kernel_rfl)).1)
              have hdp : ∀ i ∈ ([[], [0], [1], [2], [], [4], [5], [6]] : List (List Nat)).getD 7 [], L i = true := (all1 (hd 6 (by kernel_rfl)).1)
              clear hd hs
              have cell0 := (CT.out w' (hI.1.below hk (by decide))).1
              exact outcome_value (v := .int .u32 (n : Int)) (by simp [go_sem, s37, cell0]) (hI.val (fun _ _ _ _ h _ => h) hk (by decide) (Below.refl _ _) rfl hdp)
            refine And.intro ?_ ?_
            · intro L V ρ w' hI hk hc hf hd hs
              have h34 := (hd 3 (by kernel_rfl)).1
              have s34 : ρ (.tmp 34) = .map (some mb) := ((hd 3 (by kernel_rfl)).2 34 (by kernel_rfl)).trans (hI.1.at (j := 3) hk (by decide) (by decide) (hd 3 (by kernel_rfl)).1)
              have h38 := (hd 7 (by kernel_rfl)).1
              have s38 : ρ (.tmp 38) = .int .u32 (n : Int) := ((hd 7 (by kernel_rfl)).2 38 (by kernel_rfl)).trans (hI.1.at (j := 7) hk (by decide) (by decide) (hd 7 (by kernel_rfl)).1)
              have g7 := (hd 7 (by kernel_rfl)).1
              have g6 := hI.2 7 (by decide) g7 6 (by decide)
              have g5 := hI.2 6 (by decide) g6 5 (by decide)
              have g4 := hI.2 5 (by decide) g5 4 (by decide)
              have g3 := (hd 3 (by kernel_rfl)).1
              have g2 := hI.2 3 (by decide) g3 2 (by decide)
              have g1 := hI.2 2 (by decide) g2 1 (by decide)
              have g0 := hI.2 1 (by decide) g1 0 (by decide)
              have hall : ∀ j, j < 8 → L j = true := fun j hj => by
                have : j = 0 ∨ j = 1 ∨ j = 2 ∨ j = 3 ∨ j = 4 ∨ j = 5 ∨ j = 6 ∨ j = 7 := by omega
                rcases this with rfl | rfl | rfl | rfl | rfl | rfl | rfl | rfl
                all_goals assumption
              have hbw := hI.1.below hk (by decide)
              clear hd hs
              obtain ⟨es, cl, hdel, hdel2⟩ := ((IM.out w' hbw)).delete (P := Try.prog) (t := 66) rfl rfl 63 0 (n : Int)
              refine outcome_value (v := .tuple #[]) (w := setBlock w' mb (.map es cl)) ?_ (hI.fin hall _ ⟨(Mod.of_below hbw (fun k => k = mb)).setBlock (b := mb) (fun _ => rfl) _, hdel2 _ (heap_setBlock (IM.out w' hbw).lt _)⟩)
              simp only [execOp, resolve, invoke, builtin, Sem.run_bind, Sem.run_pure, Result.andThen_ok, List.map_toArray, List.map_cons, List.map_nil, s34, s38, hdel]
            exact trivial
        case hend =>
          intro L V w5 hL hI
          obtain ⟨hM, hIM⟩ := (hI.1.2 (hL 8 (by decide))).2
          have E1 := hid hM; have E2 := hid hIM
          simp only [lexF, Act.put, List.setIfInBounds_toArray, List.set_cons_zero, List.set_cons_succ]
          clear hI hL hM hIM CT IM
          have B5 := hid (E1.out.blk SK.out.blk (SK.out.mbne SK.out.blk))
          have U5 := hid (U.out.mod E1.out (fun j cs T hb _ e => SK.out.mbne hb e))
          have O5 := hid (OL.out.mod E1.out (fun j hj e => by obtain ⟨cs, hb⟩ := OL.out.kind hj; exact SK.out.mbne hb e))
          have M5 := hid (show Mod (fun k => k = r ∨ k = mb) w w5 from MK.out.step E1.out (fun j _ e => Or.inr e))
          have hlen := hid (show (us.map (·.1)).length ≤ 1000000 by rw [List.length_map]; have := UL.out; have := HK.out; omega)
          go_upto_region 7 with (at_builtin; refine wpList_push rfl (.tmp 39) (.tmp 41) 22 29 rfl Try.underlying22 info_slice rfl (by decide) rfl rfl (U5.out.1.alloc _) ((Blk.new _ _ _).cellv rfl) rfl hlen.out (by have := M5.out.size; simp; omega) ?_; intro v6 w6 R6 N6 o6; have P6 := hid R6; have N6' := hid N6; clear R6 N6 o6)
          have L6 := hid (show Below w5.heap.size w5 (w5.alloc (.cells #[.slice p l.length c] 29)) from (Below.refl _ _).alloc (Nat.le_refl _) _)
          have UA := hid (U5.out.below L6.out)
          have U6 := hid (UA.out.push (xs := l) P6.out N6'.out (O5.out.below L6.out))
          have nr : ∀ j cs T, Blk w5 j cs T → T ≠ 29 → Blk w6 j cs T := fun j cs T hb hT => N6'.out.blk (hb.alloc _) (fun e => by
            obtain ⟨cs', hb'⟩ := UA.out.1.kind e
            exact hT (Blk.inj (hb.alloc _) hb').2)
          have B6 := nr _ _ _ B5.out (by decide)
          have I6 := hid (show IMap w6 mb .u32 (del D (n : Int)) from (E2.out.alloc _).of_block (N6'.out.block mb (E2.out.alloc _).lt (fun e => by
            obtain ⟨cs', hb'⟩ := UA.out.1.kind e
            exact (E2.out.alloc _).not_cells hb' rfl)))
          have M6 := hid (show Mod (fun k => k = r ∨ k = mb) w w6 from (M5.out.trans (Mod.of_below L6.out _)).step N6'.out (fun j hj e => by
            have h2 := (UA.out.1.lt j e).1
            omega))
          have V6 := hid (show ∀ x v l', D x = some v → A x = some l' → Ow wr base v l' → Ow w6 base v l' from fun x v l' _ _ hO => by
            have h5 := hO.mod E1.out (fun j hj e => by obtain ⟨cs, hb⟩ := hO.kind hj; exact SK.out.mbne hb e)
            exact (h5.below L6.out).pushed UA.out.1 N6'.out)
          have b0 : w6.cell? ⟨r, 0, none⟩ = some (.int .u32 (n : Int)) := B6.cellv rfl
          have f0 : w6.frozen? ⟨r, 0, none⟩ = false := B6.frozen 0
          have hrl := B6.lt
          have BB := hid B6
          clear nr B6 B5 U5 O5 M5 L6 UA E1 E2
          go_upto_region 4 with fail
          obtain ⟨wf, hwf⟩ : ∃ wf, wf = w6.setCell ⟨r, 0, none⟩ (.int .u32 ((n : Int) + 1)) := ⟨_, rfl⟩
          rw [← hwf]
          have MF := hid (show Mod (fun k => k = r) w6 wf by rw [hwf]; exact (Mod.refl (fun k => k = r) w6).setCell (p := ⟨r, 0, none⟩) (fun _ => rfl) _)
          have BF := hid (show Blk wf r #[.int .u32 ((n + 1 : Nat) : Int), .map (some mb)] 68 by rw [hwf]; exact BB.out.set 0 _)
          have nk : ∀ {v : Value} {l' : List W8}, Ow w6 base v l' → Ow wf base v l' := fun hO => hO.mod MF.out (fun j hj e => by
            obtain ⟨cs, hb⟩ := hO.kind hj
            rw [e] at hb
            exact absurd (Blk.inj hb BB.out).2 (by decide))
          have RF := hid (show RR wf base r mb (n + 1) (delA A (n : Int)) from ⟨BF.out, ⟨del D (n : Int), I6.out.of_block (MF.out.block mb I6.out.lt (fun e => by
              have := I6.out.not_cells BB.out
              exact this e.symm)), fun x => by
              by_cases hx : x = (n : Int)
              · exact Or.inl ⟨if_pos hx, if_pos hx⟩
              · rcases DA.out x with ⟨e1, e2⟩ | ⟨v, l', e1, e2, e3⟩
                · exact Or.inl ⟨(if_neg hx).trans e1, (if_neg hx).trans e2⟩
                · exact Or.inr ⟨v, l', (if_neg hx).trans e1, (if_neg hx).trans e2, nk (V6.out x v l' e1 e2 e3)⟩⟩, SK.out.own, fun x hx => by
              by_cases hxn : x = (n : Int)
              · exact absurd (if_pos hxn) hx
              · have hx' : A x ≠ none := fun e => hx ((if_neg hxn).trans e)
                have := SK.out.keys x hx'
                omega⟩)
          have UF := hid (U6.out.mod MF.out (fun j cs T hb hT e => by
            rw [e] at hb
            have := (Blk.inj hb BB.out).2
            rcases hT with e' | e' <;> rw [e'] at this <;> exact absurd this (by decide)))
          have M7 := hid (show Mod (fun k => k = r ∨ k = mb) w wf from M6.out.step MF.out (fun j _ e => Or.inl e))
          have KF := hid (show ∀ x, delA A (n : Int) x ≠ none → x < (n0 : Int) + 8 from fun x hx => KK.out x (fun e => hx (by
            by_cases hxn : x = (n : Int)
            · exact if_pos hxn
            · exact (if_neg hxn).trans e)))
          have QF := hid (show q = ((us ++ [((.slice p l.length c : Value), l)]).map (·.2) ++ (nextA (8 - (k + 1)) (n + 1) (delA A (n : Int))).1, (nextA (8 - (k + 1)) (n + 1) (delA A (n : Int))).2) from by
            have hq := QK.out
            have e8 : 8 - k = (8 - (k + 1)) + 1 := by have := HK.out; omega
            rw [e8, nextA_some AS.out] at hq
            rw [hq]; simp)
          have UL1 := hid (show (us ++ [((.slice p l.length c : Value), l)]).length ≤ k + 1 by rw [List.length_append]; have := UL.out; simp; omega)
          have d0 : wf.cell? ⟨r, 0, none⟩ = some (.int .u32 ((n : Int) + 1)) := BF.out.cellv rfl
          have d1 : wf.cell? ⟨r, 1, none⟩ = some (.map (some mb)) := BF.out.cellv rfl
          have hrf := BF.out.lt
          clear hwf nk b0 f0 hrl U6 V6 I6 M6 BB SK KK QK MK U UL
          rcases RF.out.look ((n : Int) + 1) with ⟨e1, e2⟩ | ⟨p', c', l', e1, e2, e3⟩
          · have E1 := hid e1
            clear e1
            go_quiet (fail)
            have BQ := hid (show Below wf.heap.size wf (wf.drewN nq) from below_drewN (Below.refl _ _) _)
            go_wp2
            go_roundg (8 - (k + 1))
            case measure => have := HK.out; omega
            case rel => exact ⟨k + 1, n + 1, _, _, rfl, HK.out, by have := HN.out; omega, hid (UF.out.below BQ.out), UL1, hid (RF.out.below BQ.out), KF, QF, hid (M7.out.trans (Mod.of_below BQ.out _)), Or.inl ⟨E1, rfl, rfl⟩⟩
          · have E1 := hid e1
            have E2 := hid e2
            clear e1 e2
            go_quiet (fail)
            have BQ := hid (show Below wf.heap.size wf (wf.drewN nq) from below_drewN (Below.refl _ _) _)
            go_wp2
            go_roundg (8 - (k + 1))
            case measure => have := HK.out; omega
            case rel => exact ⟨k + 1, n + 1, _, _, rfl, HK.out, by have := HN.out; omega, hid (UF.out.below BQ.out), UL1, hid (RF.out.below BQ.out), KF, QF, hid (M7.out.trans (Mod.of_below BQ.out _)), Or.inr ⟨p', c', l', E1, hid (E2.out.below BQ.out), rfl, rfl⟩⟩
end Go.Proofs.Ytkehejkjifgieaa
