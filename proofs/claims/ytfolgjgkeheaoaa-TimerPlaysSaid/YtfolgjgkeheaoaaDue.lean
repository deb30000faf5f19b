/- Due takes out those that are due. -/
import Derived.Test.YtfolgjgkeheaoaaRep
namespace Go.Proofs.Ytfolgjgkeheaoaa
open Go.RowKit Go.ChangeMaps

theorem info22 : (Try.prog.info? 22).map (fun i => (i.zero, i.size, i.bytes)) = some (some (.int .u32 0), 1, 4) := by kernel_rfl

theorem dueL_le (now : Int) (k : Nat) (m : List Ent) : (dueL now k m).1.length + (dueL now k m).2.length = m.length := by
  induction k generalizing m with
  | zero => simp [dueL]
  | succ k ih =>
    cases m with
    | nil => simp [dueL]
    | cons a m =>
      unfold dueL; split
      · have := ih m; simp; omega
      · simp

/-- What append to a slice of the call's own leaves. -/
theorem own_grown {w w' : World} {base n : Nat} {v : Value} {xs : List Value} {T : TypeId} {o : Obj} (h : w.ownsRow base T 1 v n xs) (hg : (w.alloc o).grownBy w' v.ownBlock) :
    Mod (fun k => base ≤ k ∧ ∃ cs fz, w.heap[k]? = some (.cells cs T fz)) w w' := by
  have M : Mod (fun k => v.ownBlock = some k) (w.alloc o) w' := Mod.of_grown hg (fun k hk => hk)
  refine (((Mod.refl (fun k => v.ownBlock = some k) w).alloc o).trans M).weaken fun k hk hS => ?_
  rcases h.2 with ⟨rfl, _⟩ | ⟨g, cap, cur, rfl, h1, h2, _⟩
  · cases hS
  · have : g = k := by simpa [Value.ownBlock] using hS
    subst this
    exact ⟨h1, _, _, h2⟩

set_option maxRecDepth 100000 in
set_option maxHeartbeats 4000000 in
theorem due_r {w : World} {t mb : Nat} {sv : Value} {m : List Ent} (h : Rep w t mb sv m) (now many : Int) :
    Calls Try.prog 12 #[.pointer (some ⟨t, 0, none⟩), .int .u64 now, .int .i64 many] w fun e w' => ∃ v, e = .returned v ∧ ∃ sv', sv'.ownBlock = sv.ownBlock ∧
      w'.ownsRow w.heap.size 22 1 v (dueL now many.toNat m).1.length ((dueL now many.toNat m).1.map (fun e => .int .u32 e.1)) ∧ Rep w' t mb sv' (dueL now many.toNat m).2 ∧ Mod (fun k => k = t ∨ Own sv mb k) w w' := by
  obtain ⟨i0, hi, hz0, hz1, hz2⟩ := info_parts info22
  have few := h.few
  have lt0 := hid h.lts
  have H := hid h; clear h
  go_enter Try.func12, Try.ntmps12
  go_wp2
  go_loopg [7, 8, 9, 10] m.length (fun g v _ _ _ wr => ∃ (out cur : List Ent) (sv' : Value), g = cur.length ∧ out.length + cur.length = m.length ∧ Hid (sv'.ownBlock = sv.ownBlock) ∧ Hid (wr.ownsRow w.heap.size 22 1 v out.length (out.map (fun e => .int .u32 e.1))) ∧
    Hid (Rep wr t mb sv' cur) ∧ Hid (Mod (fun k => k = t ∨ Own sv mb k) w wr) ∧ Hid ((dueL now many.toNat m).1 = out ++ (dueL now (many.toNat - out.length) cur).1) ∧ Hid ((dueL now many.toNat m).2 = (dueL now (many.toNat - out.length) cur).2))
  case atStart => exact ⟨[], m, sv, rfl, by simp, hid rfl, hid (World.ownsRow_nil _ _ _ _), H, hid (Mod.refl _ _), hid (by simp), hid (by simp)⟩
  case round =>
    obtain ⟨out, cur, sv', rfl, hlen, S, O, R, M, E1, E2⟩ := hrel
    have hlc := lt0.out
    obtain ⟨p, cap, hv⟩ : ∃ p cap, u7 = .slice p out.length cap := by
      rcases O.out.2 with ⟨e1, e2⟩ | ⟨g, cap, c2, e1, _⟩
      · exact ⟨none, 0, by rw [e1, e2]⟩
      · exact ⟨_, cap, e1⟩
    subst hv
    clear hlc
    by_cases hk : (out.length : Int) < many
    · have hk' : many.toNat - out.length = (many.toNat - out.length - 1) + 1 := by omega
      cases cur with
      | nil =>
        go_wp2_with (go_at_call 11; refine (next_r R.out).mono ?_; rintro e w1 ⟨rfl, hb⟩; dsimp only [List.head?, Option.map, Option.getD, Option.isSome])
        go_ret
        refine ⟨_, rfl, sv', S.out, ?_, ?_, M.out.trans (Mod.of_below hb _)⟩
        · rw [E1.out, hk']
          simp only [dueL, List.append_nil]
          exact (Mod.of_below hb (fun _ => False)).row O.out (fun _ _ => id)
        · rw [E2.out, hk']; simp only [dueL]; exact R.out.below hb
      | cons a rest =>
        by_cases ha : a.2 ≤ now
        · have ha' : ¬ now < a.2 := by omega
          have L1 := hid (show w.heap.size ≤ wr.heap.size from M.out.size)
          go_wp2_with first
            | (go_at_call 11; refine (next_r R.out).mono ?_; rintro e w1 ⟨rfl, hb⟩; dsimp only [List.head?, Option.map, Option.getD, Option.isSome]; have hb' := hid hb; clear hb; have R1 := hid (R.out.below hb'.out); have O1 := hid ((Mod.of_below hb'.out (fun _ => False)).row O.out (fun _ _ => id)))
            | (go_at_call 21; refine (remove_r R1.out).mono ?_; rintro e w2 ⟨rfl, M2, sv2, S2, R2⟩; have M2' := hid M2; have S2' := hid S2; have R2' := hid R2; clear M2 S2 R2; have O2 := hid (R1.out.keeps_row M2'.out O1.out (by decide) (by decide)); have L2 := hid (Nat.le_trans L1.out (Nat.le_trans hb'.out.size M2'.out.size)))
            | (at_builtin; refine wpList_append_own_at _ rfl (.tmp 30) (.tmp 32) 35 rfl w.heap.size 22 i0 (.int .u32 0) 1 4 rfl hi hz0 hz1 hz2 rfl (by decide) (.slice p out.length cap) out.length (out.map (fun e => .int .u32 e.1)) rfl (O2.out.alloc _) ⟨w2.heap.size, 0, none⟩ 1 1 [.int .u32 a.1] rfl rfl (cell_one_new _ _ _) (by simp [Value.oneCell']) (by unfold maxLen; omega) (by omega) (by have := L2.out; simp; omega) ?_)
          intro v' w3 hown' hgrow _ hat
          have M3 := own_grown O2.out hgrow
          have R3 := hid (R2'.out.apart M3 (fun k hk _ => by obtain ⟨_, cs, fz, hc⟩ := hk; exact ⟨cs, _, fz, hc, by decide, by decide⟩))
          have Sw : Own sv' mb = Own sv mb := by funext k; unfold Own; rw [S.out]
          have M4 := hid (((M.out.trans (Mod.of_below hb'.out _)).trans (Sw ▸ M2'.out)).step M3 (fun k hk hS => by omega))
          have O3 := hid hown'
          have S3 := hid (S2'.out.trans S.out)
          clear hown' hgrow hat M3 Sw
          go_wp2
          go_roundg rest.length
          case measure => simp
          case rel =>
            refine ⟨out ++ [a], rest, sv2, rfl, by simp at hlen ⊢; omega, S3, hid ?_, R3, M4, hid ?_, hid ?_⟩
            · simpa using O3.out
            · rw [E1.out, hk']
              simp only [dueL, if_pos ha, List.length_append, List.length_cons, List.length_nil, List.append_assoc, List.cons_append, List.nil_append]
              rw [show many.toNat - (out.length + (0 + 1)) = many.toNat - out.length - 1 by omega]
            · rw [E2.out, hk']
              simp only [dueL, if_pos ha, List.length_append, List.length_cons, List.length_nil]
              rw [show many.toNat - (out.length + (0 + 1)) = many.toNat - out.length - 1 by omega]
        · have ha' : now < a.2 := by omega
          go_wp2_with (go_at_call 11; refine (next_r R.out).mono ?_; rintro e w1 ⟨rfl, hb⟩; dsimp only [List.head?, Option.map, Option.getD, Option.isSome])
          go_ret
          refine ⟨_, rfl, sv', S.out, ?_, ?_, M.out.trans (Mod.of_below hb _)⟩
          · rw [E1.out, hk']
            simp only [dueL, if_neg (show ¬ a.2 ≤ now by omega), List.append_nil]
            exact (Mod.of_below hb (fun _ => False)).row O.out (fun _ _ => id)
          · rw [E2.out, hk']; simp only [dueL, if_neg (show ¬ a.2 ≤ now by omega)]; exact R.out.below hb
    · have hk' : many.toNat - out.length = 0 := by omega
      go_wp2
      go_ret
      refine ⟨_, rfl, sv', S.out, ?_, ?_, M.out⟩
      · rw [E1.out, hk']; simp only [dueL, List.append_nil]; exact O.out
      · rw [E2.out, hk']; simp only [dueL]; exact R.out
theorem due_ok {w : World} {t mb : Nat} {sv : Value} {m : List Ent} (h : Rep w t mb sv m) (now many : Int) {out cur : List Ent} {n : Nat} (e1 : dueL now many.toNat m = (out, cur)) (e2 : out.length = n) :
    Calls Try.prog 12 #[.pointer (some ⟨t, 0, none⟩), .int .u64 now, .int .i64 many] w fun e w' => ∃ v, e = .returned v ∧ ∃ sv', sv'.ownBlock = sv.ownBlock ∧
      w'.ownsRow w.heap.size 22 1 v n (out.map (fun e => .int .u32 e.1)) ∧ Rep w' t mb sv' cur ∧ Mod (fun k => k = t ∨ Own sv mb k) w w' := by
  have := due_r h now many
  rw [e1, e2] at this
  exact this
end Go.Proofs.Ytfolgjgkeheaoaa
