/- The sender: Hear. -/
import Derived.Test.YtkehejkjifgieaaSndO
namespace Go.Proofs.Ytkehejkjifgieaa
open Go.RowKit Go.ChangeMaps

set_option maxRecDepth 100000 in
theorem run_cuts {ρ : Operand → Value} {o : Oper} {x lo : Operand} {ad : Addr} {n cap k : Nat} {w : World} (ho : o.op = .slice 22 x (some lo) none none) (hx : ρ x = .slice (some ad) n cap) (hlo : ρ lo = .int .i64 (k : Int)) (h1 : k ≤ n) (h2 : n ≤ cap) :
    (execOp ρ o).run Try.prog w = .ok (.value (.slice (some (cutAt ad cap k)) (n - k) (cap - k))) w := by
  have e1 : (k : Int) ≤ (n : Int) := by omega
  have e2 : (k : Int) ≤ (cap : Int) := by omega
  have e3 : (n : Int) ≤ (cap : Int) := by omega
  unfold execOp
  simp [go_sem, sliced, ho, hx, hlo, e1, cutAt]
  split <;> rfl
theorem wpList_cuts {w : World} {ops : Array Oper} {rest : List Oper} {o : Oper} {a : Act} {Q : Exit → Act → World → Prop} (hgd : o.guard = none) (x lo : Operand) (ho : o.op = .slice 22 x (some lo) none none) {ad : Addr} {n cap k : Nat} {K : Int}
    (hx : a.eval x = .slice (some ad) n cap) (hlo : a.eval lo = .int .i64 K) (hK : K = (k : Int)) (h1 : k ≤ n) (h2 : n ≤ cap) (h : wpList Try.prog ops Q rest (a.put o.dst (.slice (some (cutAt ad cap k)) (n - k) (cap - k))) w) : wpList Try.prog ops Q (o :: rest) a w := by
  subst hK
  exact wpList_val hgd (run_cuts ho hx hlo h1 h2) h
/-- The timers without those of so many places. -/
def dropK : Nat → Nat → List Ent → List Ent
  | 0, _, m => m
  | k + 1, b, m => without (dropK k b m) ((b + k : Nat) : Int)
theorem dropK_keys {b0 : Nat} {m : List Ent} (h : ∀ e ∈ m, (b0 : Int) ≤ e.1 ∧ e.1 < (b0 : Int) + 8) : ∀ k, ∀ e ∈ dropK k b0 m, ((b0 + k : Nat) : Int) ≤ e.1 ∧ e.1 < (b0 : Int) + 8
  | 0, e, he => h e he
  | k + 1, e, he => by
    obtain ⟨h1, h2⟩ := (mem_without _ _ _).1 he
    have := dropK_keys h k e h2
    omega
theorem SR.tail {w : World} {base s t mb b0 : Nat} {sv lv : Value} {x : Value × List W8} {ts : List (Value × List W8)} {m : List Ent} (h : SR w base s t mb sv lv (x :: ts) b0 m) :
    ∃ g off cap, lv = .slice (some ⟨g, off, none⟩) (ts.length + 1) cap ∧ ts.length + 1 ≤ cap ∧ Seg w base 29 (.slice (some (cutAt ⟨g, off, none⟩ cap 1)) ts.length (cap - 1)) (ts.map (·.1)) := by
  obtain ⟨g, off, cap, e, h1, h2⟩ := Seg.tail (x := x.1) (xs := ts.map (·.1)) h.row
  rw [List.length_map] at e h1 h2
  exact ⟨g, off, cap, e, h1, h2⟩
set_option maxRecDepth 100000 in
/-- One message is gone: the slice and the base are stored. -/
theorem SR.gone {w wr : World} {base s t mb b0 : Nat} {sv lv lv' : Value} {x : Value × List W8} {ts : List (Value × List W8)} {m : List Ent} (h : SR w base s t mb sv lv (x :: ts) b0 m) (hS : Seg w base 29 lv' (ts.map (·.1))) (hk : ∀ e ∈ m, ((b0 + 1 : Nat) : Int) ≤ e.1)
    (hw : wr = (w.setCell ⟨s, 0, none⟩ lv').setCell ⟨s, 1, none⟩ (.int .u32 ((b0 + 1 : Nat) : Int))) : SR wr base s t mb sv lv' ts (b0 + 1) m ∧ Mod (fun k => k = s) w wr := by
  have M : Mod (fun k => k = s) w wr := by
    rw [hw]
    exact ((Mod.refl (fun k => k = s) w).setCell (p := ⟨s, 0, none⟩) (fun _ => rfl) _).setCell (p := ⟨s, 1, none⟩) (fun _ => rfl) _
  refine ⟨⟨?_, ?_, fun p hp => ?_, fun p hp => h.lens p (List.mem_cons_of_mem _ hp), ?_, h.own, fun e he => ?_, ?_⟩, M⟩
  · rw [hw]
    exact (h.blk.set 0 lv').set 1 _
  · exact hS.mod M (fun k hk e => by
      obtain ⟨cs, b1⟩ := hS.kind hk
      rw [e] at b1
      exact absurd (Blk.inj b1 h.blk).2 (by decide))
  · have hO := h.bys p (List.mem_cons_of_mem _ hp)
    exact hO.mod M (fun k hk e => by
      obtain ⟨cs, b1⟩ := hO.kind hk
      rw [e] at b1
      exact absurd (Blk.inj b1 h.blk).2 (by decide))
  · exact h.due.apart M (fun k hk _ => by subst hk; exact ⟨_, _, _, h.blk, by decide, by decide⟩)
  · have h1 := hk e he
    have h2 := h.keys e he
    omega
  · have := h.few
    rw [List.length_cons] at this
    omega
/-- What an answer leaves. -/
def cameM (n : Nat) (l : List (List W8)) (b0 : Nat) (m : List Ent) : List (List W8) × Nat × List Ent := if b0 < n ∧ n - b0 ≤ l.length then (l.drop (n - b0), n, dropK (n - b0) b0 m) else (l, b0, m)
set_option maxRecDepth 100000 in
set_option maxHeartbeats 4000000 in
theorem came_c {w : World} {base s t mb b0 : Nat} {sv lv : Value} {ts : List (Value × List W8)} {m : List Ent} (h : SR w base s t mb sv lv ts b0 m) (nn : Nat) (hn : nn < 4294967296) :
    Calls Try.prog 29 #[.pointer (some ⟨s, 0, none⟩), .int .u32 (nn : Int)] w fun e w' => e = .returned (.tuple #[]) ∧ (∃ lv' ts' sv' b1 m', cameM nn (ts.map (·.2)) b0 m = (ts'.map (·.2), b1, m') ∧ SR w' base s t mb sv' lv' ts' b1 m' ∧ (∀ k, Own sv' mb k → Own sv mb k) ∧ ∀ k, lv'.ownBlock = some k → lv.ownBlock = some k) ∧ Mod (fun k => k = s ∨ k = t ∨ Own sv mb k) w w' := by
  obtain ⟨pl, cl, e, hcl⟩ := h.row.slice
  rw [List.length_map] at e hcl
  subst e
  have H := hid h
  have hf := h.few
  obtain ⟨n, hnn⟩ : ∃ n, n = ts.length := ⟨_, rfl⟩
  have HN := hid hnn
  rw [← hnn] at hcl hf
  have c0 : w.cell? ⟨s, 0, none⟩ = some (.slice pl n cl) := by rw [hnn]; exact h.blk.cellv rfl
  have c1 : w.cell? ⟨s, 1, none⟩ = some (.int .u32 (b0 : Int)) := h.blk.cellv rfl
  have hs0 := h.blk.lt
  obtain ⟨r, hr⟩ : ∃ r, r = cameM nn (ts.map (·.2)) b0 m := ⟨_, rfl⟩
  rw [← hr]
  unfold cameM at hr
  rw [List.length_map, ← hnn] at hr
  have HR := hid hr
  rw [← hnn] at H ⊢
  clear h hnn hr
  by_cases hle : nn ≤ b0
  · have d1 : (nn : Int) ≤ (b0 : Int) := by omega
    have HR' := hid (HR.out.trans (if_neg (by omega)))
    go_enter Try.func29, Try.ntmps29
    go_wp2
    go_quiet (fail)
    have BQ := hid (show Below w.heap.size w (w.drewN nq) from below_drewN (Below.refl _ _) _)
    go_wp2
    refine bodyPost_ret (v := .tuple #[]) (results_none rfl _ _ _) rfl ?_
    exact ⟨rfl, ⟨_, ts, sv, b0, m, HR'.out, H.out.below BQ.out, fun _ h => h, fun _ h => h⟩, Mod.of_below BQ.out _⟩
  · have d1 : decide ((nn : Int) ≤ (b0 : Int)) = false := decide_eq_false (by omega)
    obtain ⟨z, hz⟩ : ∃ z, z = nn - b0 := ⟨_, rfl⟩
    have HZ := hid hz
    have hzi : (nn : Int) - (b0 : Int) = (z : Int) := by omega
    have hzl : z < 4294967296 := by omega
    have hnl : n < 4294967296 := by omega
    rw [← hz] at HR
    by_cases hgt : n < z
    · have d2 : (n : Int) < (z : Int) := by omega
      have HR' := hid (HR.out.trans (if_neg (by omega)))
      clear hz
      go_enter Try.func29, Try.ntmps29
      go_wp2
      go_quiet (fail)
      have BQ := hid (show Below w.heap.size w (w.drewN nq) from below_drewN (Below.refl _ _) _)
      go_wp2
      refine bodyPost_ret (v := .tuple #[]) (results_none rfl _ _ _) rfl ?_
      exact ⟨rfl, ⟨_, ts, sv, b0, m, HR'.out, H.out.below BQ.out, fun _ h => h, fun _ h => h⟩, Mod.of_below BQ.out _⟩
    · have d2 : decide ((n : Int) < (z : Int)) = false := decide_eq_false (by omega)
      have HR' := hid (HR.out.trans (if_pos (by omega)))
      have hzn := hid (show z ≤ n by omega)
      clear hz
      go_enter Try.func29, Try.ntmps29
      go_wp2
      go_quiet (fail)
      obtain ⟨wq, hwq⟩ : ∃ wq, wq = w.drewN nq := ⟨_, rfl⟩
      have BQ := hid (show Below w.heap.size w wq by rw [hwq]; exact below_drewN (Below.refl _ _) _)
      rw [← hwq]
      clear hwq d1 d2 c0 c1 hzi
      have SQ := hid (H.out.below BQ.out)
      have MQ := hid (show Mod (fun k => k = s ∨ k = t ∨ Own sv mb k) w wq from Mod.of_below BQ.out _)
      go_wp2
      go_loopg [] z (fun g wr => ∃ (k : Nat) (lvk svk : Value) (mk : List Ent), g = z - k ∧ k ≤ z ∧ Hid (mk = dropK k b0 m) ∧ Hid (SR wr base s t mb svk lvk (ts.drop k) (b0 + k) mk) ∧ Hid (Mod (fun k => k = s ∨ k = t ∨ Own sv mb k) w wr) ∧ Hid (∀ k, Own svk mb k → Own sv mb k) ∧ Hid (∀ k, lvk.ownBlock = some k → (Value.slice pl n cl).ownBlock = some k))
      case atStart => exact ⟨0, _, sv, m, rfl, Nat.zero_le _, hid rfl, hid (by simpa using SQ.out), MQ, hid (fun _ h => h), hid (fun _ h => h)⟩
      case round =>
        obtain ⟨k, lvk, svk, mk, hg, hk, DK, SK, MK, OK, LK⟩ := hrel
        have hs1 := SK.out.blk.lt
        obtain ⟨b1, hb1⟩ : ∃ b1, b1 = b0 + k := ⟨_, rfl⟩
        rw [← hb1] at SK
        have HB1 := hid hb1
        have d1 : wr.cell? ⟨s, 1, none⟩ = some (.int .u32 (b1 : Int)) := SK.out.blk.cellv rfl
        by_cases hkz : k < z
        · have hlt : (b1 : Int) < (nn : Int) := by have := HZ.out; omega
          have hkn : k < ts.length := by have := HN.out; have := hzn.out; omega
          obtain ⟨x, hx⟩ : ∃ x, x = ts[k] := ⟨_, rfl⟩
          rw [List.drop_eq_getElem_cons hkn, ← hx] at SK
          have hb1l : b1 ≤ 100000 := by have := SK.out.few; omega
          have HK1 := hid (show k + 1 ≤ z by omega)
          have CT := hid (fun (W : World) (hb : Below wr.heap.size wr W) => And.intro (show W.cell? ⟨s, 2, none⟩ = some (.pointer (some ⟨t, 0, none⟩)) from (SK.out.below hb).blk.cellv rfl) (show W.cell? ⟨s, 1, none⟩ = some (.int .u32 (b1 : Int)) from (SK.out.below hb).blk.cellv rfl))
          have DUE := hid (fun (W : World) (hb : Below wr.heap.size wr W) => SK.out.due.below hb)
          clear hx hb1
          go_upto_region 3 with fail
          refine region_inv (n := 55) (I := LastD [[], [0], [1], [2], [], [4], [5], [6]] wr 8 (fun k v _ => v = ([.pointer (some ⟨s, 0, none⟩), .pointer (some ⟨s, 0, none⟩), .pointer (some ⟨s, 2, none⟩), .pointer (some ⟨t, 0, none⟩), .pointer (some ⟨s, 0, none⟩), .pointer (some ⟨s, 0, none⟩), .pointer (some ⟨s, 1, none⟩), .int .u32 ((b1 : Nat) : Int), undef] : List Value).getD k undef) (fun W => ∃ sv2, Mod (fun k => k = t ∨ Own svk mb k) wr W ∧ sv2.ownBlock = svk.ownBlock ∧ Rep W t mb sv2 (without mk (b1 : Int)))) (by kernel_rfl) (by kernel_rfl) (by kernel_rfl) (by kernel_rfl) LastD.start ?hop ?hend
          case hop =>
            refine And.intro ?_ ?_
            · intro L V ρ w' hI hk hc hf hd hs
              have s0 : ρ (.tmp 0) = .pointer (some ⟨s, 0, none⟩) := hs 0 (by kernel_rfl)
              have hdp : ∀ i ∈ ([[], [0], [1], [2], [], [4], [5], [6]] : List (List Nat)).getD 0 [], L i = true := (all0)
              clear hd hs
              rw [BigFrame.run_move (.tmp 0) rfl]
              exact hI.val (fun _ _ _ _ h _ => h) hk (by decide) (Below.refl _ _) s0 hdp
            refine And.intro ?_ ?_
            · intro L V ρ w' hI hk hc hf hd hs
              have h38 := (hd 0 (by kernel_rfl)).1
              have s38 : ρ (.tmp 38) = .pointer (some ⟨s, 0, none⟩) := ((hd 0 (by kernel_rfl)).2 38 (by kernel_rfl)).trans (hI.1.at (j := 0) hk (by decide) (by decide) (hd 0 (by kernel_rfl)).1)
              have hdp : ∀ i ∈ ([[], [0], [1], [2], [], [4], [5], [6]] : List (List Nat)).getD 1 [], L i = true := (all1 (hd 0 (by kernel_rfl)).1)
              clear hd hs
              exact outcome_value (v := .pointer (some ⟨s, 0, none⟩)) (by simp [go_sem, s38]) (hI.val (fun _ _ _ _ h _ => h) hk (by decide) (Below.refl _ _) rfl hdp)
            refine And.intro ?_ ?_
            · intro L V ρ w' hI hk hc hf hd hs
              have h39 := (hd 1 (by kernel_rfl)).1
              have s39 : ρ (.tmp 39) = .pointer (some ⟨s, 0, none⟩) := ((hd 1 (by kernel_rfl)).2 39 (by kernel_rfl)).trans (hI.1.at (j := 1) hk (by decide) (by decide) (hd 1 (by kernel_rfl)).1)
              have hdp : ∀ i ∈ ([[], [0], [1], [2], [], [4], [5], [6]] : List (List Nat)).getD 2 [], L i = true := (all1 (hd 1 (by kernel_rfl)).1)
              clear hd hs
              exact outcome_value (v := .pointer (some ⟨s, 2, none⟩)) (by simp [go_sem, s39]) (hI.val (fun _ _ _ _ h _ => h) hk (by decide) (Below.refl _ _) rfl hdp)
            refine And.intro ?_ ?_
            · intro L V ρ w' hI hk hc hf hd hs
              have h40 := (hd 2 (by kernel_rfl)).1
              have s40 : ρ (.tmp 40) = .pointer (some ⟨s, 2, none⟩) := ((hd 2 (by kernel_rfl)).2 40 (by kernel_rfl)).trans (hI.1.at (j := 2) hk (by decide) (by decide) (hd 2 (by kernel_rfl)).1)
              have hdp : ∀ i ∈ ([[], [0], [1], [2], [], [4], [5], [6]] : List (List Nat)).getD 3 [], L i = true := (all1 (hd 2 (by kernel_rfl)).1)
              clear hd hs
              have cell0 := (CT.out w' (hI.1.below hk (by decide))).1
              exact outcome_value (v := .pointer (some ⟨t, 0, none⟩)) (by simp [go_sem, s40, cell0]) (hI.val (fun _ _ _ _ h _ => h) hk (by decide) (Below.refl _ _) rfl hdp)
            refine And.intro ?_ ?_
            · intro L V ρ w' hI hk hc hf hd hs
              have s0 : ρ (.tmp 0) = .pointer (some ⟨s, 0, none⟩) := hs 0 (by kernel_rfl)
              have hdp : ∀ i ∈ ([[], [0], [1], [2], [], [4], [5], [6]] : List (List Nat)).getD 4 [], L i = true := (all0)
              clear hd hs
              rw [BigFrame.run_move (.tmp 0) rfl]
              exact hI.val (fun _ _ _ _ h _ => h) hk (by decide) (Below.refl _ _) s0 hdp
            refine And.intro ?_ ?_
            · intro L V ρ w' hI hk hc hf hd hs
              have h42 := (hd 4 (by kernel_rfl)).1
              have s42 : ρ (.tmp 42) = .pointer (some ⟨s, 0, none⟩) := ((hd 4 (by kernel_rfl)).2 42 (by kernel_rfl)).trans (hI.1.at (j := 4) hk (by decide) (by decide) (hd 4 (by kernel_rfl)).1)
              have hdp : ∀ i ∈ ([[], [0], [1], [2], [], [4], [5], [6]] : List (List Nat)).getD 5 [], L i = true := (all1 (hd 4 (by kernel_rfl)).1)
              clear hd hs
              exact outcome_value (v := .pointer (some ⟨s, 0, none⟩)) (by simp [go_sem, s42]) (hI.val (fun _ _ _ _ h _ => h) hk (by decide) (Below.refl _ _) rfl hdp)
            refine And.intro ?_ ?_
            · intro L V ρ w' hI hk hc hf hd hs
              have h43 := (hd 5 (by kernel_rfl)).1
              have s43 : ρ (.tmp 43) = .pointer (some ⟨s, 0, none⟩) := ((hd 5 (by kernel_rfl)).2 43 (by kernel_rfl)).trans (hI.1.at (j := 5) hk (by decide) (by decide) (hd 5 (by kernel_rfl)).1)
              have hdp : ∀ i ∈ ([[], [0], [1], [2], [], [4], [5], [6]] : List (List Nat)).getD 6 [], L i = true := (all1 (hd 5 (by kernel_rfl)).1)
              clear hd hs
              exact outcome_value (v := .pointer (some ⟨s, 1, none⟩)) (by simp [go_sem, s43]) (hI.val (fun _ _ _ _ h _ => h) hk (by decide) (Below.refl _ _) rfl hdp)
            refine And.intro ?_ ?_
            · intro L V ρ w' hI hk hc hf hd hs
              have h44 := (hd 6 (by kernel_rfl)).1
              have s44 : ρ (.tmp 44) = .pointer (some ⟨s, 1, none⟩) := ((hd 6 (by kernel_rfl)).2 44 (by kernel_rfl)).trans (hI.1.at (j := 6) hk (by decide) (by decide) (hd 6 (by kernel_rfl)).1)
              have hdp : ∀ i ∈ ([[], [0], [1], [2], [], [4], [5], [6]] : List (List Nat)).getD 7 [], L i = true := (all1 (hd 6 (by kernel_rfl)).1)
              clear hd hs
              have cell0 := (CT.out w' (hI.1.below hk (by decide))).2
              exact outcome_value (v := .int .u32 ((b1 : Nat) : Int)) (by simp [go_sem, s44, cell0]) (hI.val (fun _ _ _ _ h _ => h) hk (by decide) (Below.refl _ _) rfl hdp)
            refine And.intro ?_ ?_
            · intro L V ρ w' hI hk hc hf hd hs
              have h41 := (hd 3 (by kernel_rfl)).1
              have s41 : ρ (.tmp 41) = .pointer (some ⟨t, 0, none⟩) := ((hd 3 (by kernel_rfl)).2 41 (by kernel_rfl)).trans (hI.1.at (j := 3) hk (by decide) (by decide) (hd 3 (by kernel_rfl)).1)
              have h45 := (hd 7 (by kernel_rfl)).1
              have s45 : ρ (.tmp 45) = .int .u32 ((b1 : Nat) : Int) := ((hd 7 (by kernel_rfl)).2 45 (by kernel_rfl)).trans (hI.1.at (j := 7) hk (by decide) (by decide) (hd 7 (by kernel_rfl)).1)
              have g7 := (hd 7 (by kernel_rfl)).1
              have g6 := hI.2 7 (by decide) g7 6 (by decide)
              have g5 := hI.2 6 (by decide) g6 5 (by decide)
              have g4 := hI.2 5 (by decide) g5 4 (by decide)
              have g3 := (hd 3 (by kernel_rfl)).1
              have g2 := hI.2 3 (by decide) g3 2 (by decide)
              have g1 := hI.2 2 (by decide) g2 1 (by decide)
              have g0 := hI.2 1 (by decide) g1 0 (by decide)
              have hall : ∀ j, j < 8 → L j = true := fun j hj => by
                have : j = 0 ∨ j = 1 ∨ j = 2 ∨ j = 3 ∨ j = 4 ∨ j = 5 ∨ j = 6 ∨ j = 7 := by omega
                rcases this with rfl | rfl | rfl | rfl | rfl | rfl | rfl | rfl
                all_goals assumption
              have hbw := hI.1.below hk (by decide)
              clear hd hs
              refine outcome_enter (w := w') (f := 44) (args := #[.pointer (some ⟨t, 0, none⟩), .int .u32 ((b1 : Nat) : Int)]) (by simp [go_sem, hf, s41, s45]) ?_
              refine (cancel_r (DUE.out w' hbw) (b1 : Int)).mono ?_
              rintro e w2 ⟨rfl, M2, sv2, L2, R2⟩
              exact ⟨_, rfl, hI.fin hall _ ⟨sv2, (Mod.of_below hbw _).trans M2, L2, R2⟩⟩
            exact trivial
          case hend =>
            intro L V w5 hL hI
            obtain ⟨sv2, hM, hO, hR⟩ := (hI.1.2 (hL 8 (by decide))).2
            have E1 := hid hM; have E3 := hid hR
            have OW := hid (show ∀ j, Own sv2 mb j → Own svk mb j from fun j hj => hj.elim (fun e => Or.inl (hO ▸ e)) Or.inr)
            simp only [lexF, Act.put, List.setIfInBounds_toArray, List.set_cons_zero, List.set_cons_succ]
            clear hI hL hM hO hR CT DUE
            have keys := hid (show ∀ e ∈ without mk (b1 : Int), ((b1 : Nat) : Int) ≤ e.1 ∧ e.1 < (b1 : Int) + 8 from fun e he => SK.out.keys e ((mem_without _ _ _).1 he).2)
            have S5 := hid (SK.out.timed E1.out E3.out (fun j hj => SK.out.own.2.2 j (OW.out j hj)) keys.out)
            have M5 := hid (show Mod (fun k => k = s ∨ k = t ∨ Own sv mb k) w w5 from MK.out.step E1.out (fun j _ e => Or.inr (e.imp id (OK.out j))))
            clear SK MK E3 d1
            obtain ⟨g, off, cap, hlv, hcap, hseg⟩ := S5.out.tail
            have SEG := hid hseg
            have e0 : w5.cell? ⟨s, 0, none⟩ = some (.slice (some ⟨g, off, none⟩) ((ts.drop (k + 1)).length + 1) cap) := by rw [← hlv]; exact S5.out.blk.cellv rfl
            have e1 : w5.cell? ⟨s, 1, none⟩ = some (.int .u32 (b1 : Int)) := S5.out.blk.cellv rfl
            have f0 : w5.frozen? ⟨s, 0, none⟩ = false := S5.out.blk.frozen 0
            have f1 : w5.frozen? ⟨s, 1, none⟩ = false := S5.out.blk.frozen 1
            have hs5 := S5.out.blk.lt
            obtain ⟨nt, hnt⟩ : ∃ nt, nt = (ts.drop (k + 1)).length := ⟨_, rfl⟩
            rw [← hnt] at e0 hcap SEG
            have HNT := hid hnt
            have HLV := hid hlv
            clear hnt hlv hseg
            go_wp2_with ((with_reducible refine at_op (.slice 22 (.tmp 51) (some (.const (.int .i64 1))) none none) rfl ?_); refine wpList_cuts rfl (.tmp 51) (.const (.int .i64 1)) rfl (k := 1) rfl rfl rfl (by omega) hcap ?_)
            obtain ⟨wf, hwf⟩ : ∃ wf, wf = (w5.setCell ⟨s, 0, none⟩ (.slice (some (cutAt ⟨g, off, none⟩ cap 1)) nt (cap - 1))).setCell ⟨s, 1, none⟩ (.int .u32 ((b1 : Int) + 1)) := ⟨_, rfl⟩
            rw [← hwf]
            obtain ⟨G1, G2⟩ := SR.gone (wr := wf) S5.out (by have := SEG.out; exact this) (fun e he => by
              have h1 := (keys.out e he).1
              have h2 := ((mem_without _ _ _).1 he).1
              omega) hwf
            have GG := hid G1
            have M6 := hid (show Mod (fun k => k = s ∨ k = t ∨ Own sv mb k) w wf from M5.out.step G2 (fun j _ e => Or.inl e))
            have L6 := hid (show ∀ j, (Value.slice (some (cutAt ⟨g, off, none⟩ cap 1)) nt (cap - 1)).ownBlock = some j → (Value.slice pl n cl).ownBlock = some j from fun j hj => LK.out j (by
              rw [HLV.out]
              unfold cutAt at hj
              split at hj
              · exact hj
              · rw [Addr.add_mid] at hj; exact hj))
            clear hwf G1 G2 e0 e1 f0 f1
            go_roundg (z - (k + 1))
            case measure => omega
            case rel => exact ⟨k + 1, _, sv2, without mk (b1 : Int), rfl, HK1.out, hid (by rw [DK.out, HB1.out]; rfl), hid (by have h6 := GG.out; have e6 : b1 + 1 = b0 + (k + 1) := (by have := HB1.out; omega); rw [e6] at h6; exact h6), M6, hid (fun j hj => OK.out j (OW.out j hj)), L6⟩
        · have hlt : ¬ (b1 : Int) < (nn : Int) := by have := HZ.out; omega
          have hkz' : k = z := by omega
          subst hkz'
          have hb1n := hid (show b1 = nn by have := HZ.out; have := HB1.out; omega)
          clear hb1
          go_wp2
          go_end0
          refine ⟨rfl, ⟨lvk, ts.drop k, svk, b1, mk, ?_, SK.out, OK.out, LK.out⟩, MK.out⟩
          rw [HR'.out, hb1n.out, DK.out, List.map_drop]
/-- How many came, by an answer's frame: why not (0: it says so), the number. -/
def ackN (xs : List W8) : Int × Nat :=
  if opens xs then (if (xs.take (xs.length - 4)).length = 5 ∧ (xs.take (xs.length - 4)).getD 0 0 = 65 then (0, un32 ((xs.take (xs.length - 4)).drop 1)) else (3, 0)) else (14, 0)
def hearM (xs : List W8) (l : List (List W8)) (b0 : Nat) (m : List Ent) : List (List W8) × Nat × List Ent := if (ackN xs).1 = 0 then cameM (ackN xs).2 l b0 m else (l, b0, m)
set_option maxRecDepth 100000 in
set_option maxHeartbeats 2000000 in
theorem shear_c {w : World} {base s t mb b0 : Nat} {sv lv vb : Value} {ts : List (Value × List W8)} {m : List Ent} {xs : List W8} (h : SR w base s t mb sv lv ts b0 m) (hX : Bytes w vb xs) (hl : xs.length ≤ 100000) :
    Calls Try.prog 12 #[.pointer (some ⟨s, 0, none⟩), vb] w fun e w' => e = .returned (.int .i64 (ackN xs).1) ∧ (∃ lv' ts' sv' b1 m', hearM xs (ts.map (·.2)) b0 m = (ts'.map (·.2), b1, m') ∧ SR w' base s t mb sv' lv' ts' b1 m' ∧ (∀ k, Own sv' mb k → Own sv mb k) ∧ ∀ k, lv'.ownBlock = some k → lv.ownBlock = some k) ∧ Mod (fun k => k = s ∨ k = t ∨ Own sv mb k) w w' := by
  obtain ⟨p, cap, hv, hq0⟩ := hX
  subst hv
  have hB : Bytes w (.slice p xs.length cap) xs := ⟨p, cap, rfl, hq0⟩
  clear hq0
  have H := hid h
  clear h
  have CO := hid (open_c hB hl)
  unfold ansO at CO
  obtain ⟨rr, hrr⟩ : ∃ rr, rr = hearM xs (ts.map (·.2)) b0 m := ⟨_, rfl⟩
  rw [← hrr]
  unfold hearM at hrr
  obtain ⟨r, hr⟩ : ∃ r, r = ackN xs := ⟨_, rfl⟩
  rw [← hr] at hrr ⊢
  have HRR := hid hrr
  clear hrr
  unfold ackN at hr
  by_cases ho : opens xs
  · rw [if_pos ho] at hr
    simp only [if_pos ho] at CO
    obtain ⟨q, hq⟩ : ∃ q, q = xs.length - 4 := ⟨_, rfl⟩
    have h5 := ho.1
    obtain ⟨ad, rfl⟩ : ∃ ad, p = some ad := by
      rcases bytes_nil_or hB with ⟨c, e, e2⟩ | ⟨ad, c, e⟩
      · rw [e2] at h5; simp at h5
      · cases e; exact ⟨ad, rfl⟩
    have hcap := (hB.len_le (by omega)).2
    have hX := hB.take' q (by omega)
    rw [← hq] at CO hr
    obtain ⟨x, hx⟩ : ∃ x, x = xs.take q := ⟨_, rfl⟩
    have hxl : x.length = q := by rw [hx, List.length_take]; omega
    rw [← hx] at hX hr
    rw [hxl] at hr
    have hqc : q ≤ cap := by omega
    have hq1 : 1 ≤ q := by omega
    have hql : q ≤ 100000 := by omega
    obtain ⟨g, off, e, hc0⟩ : ∃ g off, (some ad : Option Addr) = some ⟨g, off, none⟩ ∧ w.cell? ⟨g, off, none⟩ = some (.int .u8 (ub (x.getD 0 0))) ∧ g < w.heap.size := by
      obtain ⟨p', c', e', hh⟩ := hX
      cases e'
      obtain ⟨g, off, e1, e2, _, _, e3⟩ := hh (by omega)
      exact ⟨g, off, e1, by have := e3 0 (by omega); simpa using this, e2⟩
    cases e
    obtain ⟨hc0, hgl⟩ := hc0
    have HC := hid hc0; have HX := hid hX; have HG := hid hgl; have HL := hid hxl
    have hqi0 : (0 : Int) < (q : Int) := by omega
    clear hc0 hX hx hB ho hcap h5 hgl hxl hq
    have D1 := hid (show Bytes w (.slice (some (cutAt ⟨g, off, none⟩ cap 1)) (q - 1) (cap - 1)) (x.drop 1) from by
      have hh := HX.out
      have hxl := HL.out
      rw [← hxl] at hh ⊢
      exact hh.drop 1 (by omega))
    obtain ⟨x0, hx0⟩ : ∃ x0, x0 = x.getD 0 0 := ⟨_, rfl⟩
    obtain ⟨y, hy⟩ : ∃ y, y = x.drop 1 := ⟨_, rfl⟩
    have hyl := hid (show y.length = q - 1 by rw [hy, List.length_drop, HL.out])
    rw [← hx0, ← hy] at hr
    rw [← hx0] at HC
    rw [← hy] at D1
    have HR := hid hr
    clear hx0 hy hr
    go_enter Try.func12, Try.ntmps12
    go_upto_region 6 with (go_at_call 27; refine CO.out.mono ?_; rintro e w1 ⟨rfl, hb1⟩; have B1 := hid hb1; clear hb1)
    have c0 : w1.cell? ⟨g, off, none⟩ = some (.int .u8 (ub x0)) := (B1.out.cell HG.out).trans HC.out
    have D1' := hid (D1.out.below B1.out)
    have S1 := hid (H.out.below B1.out)
    by_cases hq5 : q = 5
    · subst hq5
      by_cases h65 : x0 = 65
      · have e65 : ub x0 = 65 := by rw [h65]; rfl
        rw [e65] at c0
        have HR' := hid (HR.out.trans (if_pos ⟨rfl, h65⟩))
        have D4 : Bytes w1 (.slice (some (cutAt ⟨g, off, none⟩ cap 1)) 4 (cap - 1)) y := D1'.out
        have CT := hid (take32_c D4 (by have := hyl.out; omega))
        clear D4
        have hy4 : 4 ≤ y.length := by have := hyl.out; omega
        simp only [if_pos hy4] at CT
        clear hy4
        obtain ⟨nn, hnn⟩ : ∃ nn, nn = un32 y := ⟨_, rfl⟩
        have hnl := hid (show nn < 4294967296 by rw [hnn]; exact un32_lt y)
        rw [← hnn] at CT HR'
        clear hnn
        have CC := hid (fun (W : World) (hb : Below w1.heap.size w1 W) => came_c (S1.out.below hb) nn hnl.out)
        go_wp2_with (first
          | ((with_reducible refine at_op (.slice 29 (.tmp 32) (some (.const (.int .i64 1))) none none) rfl ?_); refine wpList_cut rfl (.tmp 32) (.const (.int .i64 1)) rfl (k := 1) rfl rfl rfl hq1 hqc ?_)
          | (go_at_call 28; refine CT.out.mono ?_; rintro e w2 ⟨⟨v2, rfl, O2⟩, hb2⟩; have B2 := hid hb2; clear O2 hb2)
          | (go_at_call 29; refine (CC.out _ B2.out).mono ?_; rintro e w3 ⟨rfl, hC3, hM3⟩; have C3 := hid hC3; have M3 := hid hM3; clear hC3 hM3))
        go_ret
        obtain ⟨lv', ts', sv', b1, m', k1, k2, k3, k4⟩ := C3.out
        have e2 := HRR.out
        rw [HR'.out, if_pos rfl] at e2
        rw [HR'.out, e2]
        exact ⟨rfl, ⟨lv', ts', sv', b1, m', k1, k2, k3, k4⟩, ((Mod.of_below B1.out _).trans (Mod.of_below B2.out _)).trans M3.out⟩
      · have e65 : (ub x0 != 65) = true := by
          have : ub x0 ≠ 65 := fun e => h65 (by
            apply BitVec.eq_of_toNat_eq
            have : (x0.toNat : Int) = 65 := e
            show x0.toNat = 65
            omega)
          simpa using this
        go_wp2
        go_ret
        have e1 := HR.out.trans (if_neg (fun h => h65 h.2))
        have e2 := HRR.out
        rw [e1, if_neg (by decide)] at e2
        rw [e1, e2]
        exact ⟨rfl, ⟨lv, ts, sv, b0, m, rfl, S1.out, fun _ h => h, fun _ h => h⟩, Mod.of_below B1.out _⟩
    · have e5 : ((q : Int) != 5) = true := by
        have : (q : Int) ≠ 5 := by omega
        simpa using this
      go_wp2
      go_ret
      have e1 := HR.out.trans (if_neg (fun h => hq5 h.1))
      have e2 := HRR.out
      rw [e1, if_neg (by decide)] at e2
      rw [e1, e2]
      exact ⟨rfl, ⟨lv, ts, sv, b0, m, rfl, S1.out, fun _ h => h, fun _ h => h⟩, Mod.of_below B1.out _⟩
  · rw [if_neg ho] at hr
    simp only [if_neg ho] at CO
    have HR := hid hr
    clear hB ho hl hr
    go_enter Try.func12, Try.ntmps12
    go_wp2_with (go_at_call 27; refine CO.out.mono ?_; rintro e w1 ⟨rfl, hb1⟩; have B1 := hid hb1; clear hb1)
    go_ret
    have e2 := HRR.out
    rw [HR.out, if_neg (by decide)] at e2
    rw [HR.out, e2]
    exact ⟨rfl, ⟨lv, ts, sv, b0, m, rfl, H.out.below B1.out, fun _ h => h, fun _ h => h⟩, Mod.of_below B1.out _⟩
end Go.Proofs.Ytkehejkjifgieaa
