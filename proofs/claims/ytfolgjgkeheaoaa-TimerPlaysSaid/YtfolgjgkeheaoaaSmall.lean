/- At, Len, Next, New. -/
import Derived.Test.YtfolgjgkeheaoaaSetLaw
namespace Go.Proofs.Ytfolgjgkeheaoaa
open Go.RowKit Go.ChangeMaps

theorem Tm.shape {w : World} {t mb n : Nat} {sv : Value} {f : Nat → Ent} (h : Tm w t mb sv n f) : ∃ p cap, sv = .slice p n cap := by
  rcases h.row with ⟨rfl, rfl⟩ | ⟨g, cap, cur, rfl, _⟩
  · exact ⟨_, _, rfl⟩
  · exact ⟨_, _, rfl⟩

theorem len_c {w : World} {t mb n : Nat} {sv : Value} {f : Nat → Ent} (h : Tm w t mb sv n f) :
    Calls Try.prog 10 #[.pointer (some ⟨t, 0, none⟩)] w fun e w' => e = .returned (.int .i64 n) ∧ w' = w := by
  obtain ⟨p, cap, rfl⟩ := h.shape
  have few := h.few
  have ht := h.blk.lt
  have c0 : w.cell? ⟨t, 0, none⟩ = some (.slice p n cap) := h.blk.cellv rfl
  clear h
  go_enter Try.func10, Try.ntmps10
  go_wp2
  go_ret
  exact ⟨rfl, rfl⟩
theorem len_nil (w : World) : Calls Try.prog 10 #[.pointer none] w fun e w' => e = .returned (.int .i64 0) ∧ w' = w := by
  go_enter Try.func10, Try.ntmps10
  go_wp2
  go_ret
  exact ⟨rfl, rfl⟩

set_option maxRecDepth 100000 in
set_option maxHeartbeats 2000000 in
theorem at_old {w : World} {t mb n : Nat} {sv : Value} {f : Nat → Ent} (h : Tm w t mb sv n f) {i : Nat} (hi : i < n) {id : Int} (hid : id = (f i).1) :
    Calls Try.prog 13 #[.pointer (some ⟨t, 0, none⟩), .int .u32 id] w fun e w' => e = .returned (.tuple #[.int .u64 (f i).2, .bool true]) ∧ w' = w := by
  subst hid
  obtain ⟨g, cap, cur, rfl, hb, h1, h2, h3, h4⟩ := h.pos (by omega)
  obtain ⟨D, hD, hD1, hD2⟩ := h.map
  have ht := h.blk.lt
  have hg := hb.lt
  have few := h.few
  have c0 : w.cell? ⟨t, 0, none⟩ = some (.slice (some ⟨g, 0, none⟩) n cap) := h.blk.cellv rfl
  have c1 : w.cell? ⟨t, 1, none⟩ = some (.map (some mb)) := h.blk.cellv rfl
  have lk : (Instr.lookup 56 (.map (some mb)) (.int .u32 (f i).1) true).run Try.prog w = .ok (.tuple #[.int .i64 (i : Int), .bool true]) w := by
    have := hD.look (P := Try.prog) (t := 56) (z := .int .i64 0) rfl rfl rfl (f i).1
    rw [hD1 i hi] at this; exact this
  have cv : w.cell? ⟨g, i * 2 + 1, none⟩ = some (.int .u64 (f i).2) := hb.cellv (h4 i hi).2
  clear hD1 hD2 hD h4 h hb
  go_enter Try.func13, Try.ntmps13
  go_wp2
  go_ret2
  exact ⟨rfl, rfl⟩
theorem where_none' {n : Nat} {f : Nat → Ent} {D : Int → Option Value} (h3 : ∀ x v, D x = some v → ∃ k, k < n ∧ (f k).1 = x) {x : Int} (hn : ¬ Has n f x) : D x = none := by
  cases h : D x with
  | none => rfl
  | some v => exact absurd (h3 x v h) hn
set_option maxRecDepth 100000 in
set_option maxHeartbeats 2000000 in
theorem at_none {w : World} {t mb n : Nat} {sv : Value} {f : Nat → Ent} (h : Tm w t mb sv n f) {id : Int} (hhas : ¬ Has n f id) :
    Calls Try.prog 13 #[.pointer (some ⟨t, 0, none⟩), .int .u32 id] w fun e w' => e = .returned (.tuple #[.int .u64 0, .bool false]) ∧ w' = w := by
  obtain ⟨D, hD, hD1, hD2⟩ := h.map
  have ht := h.blk.lt
  have c1 : w.cell? ⟨t, 1, none⟩ = some (.map (some mb)) := h.blk.cellv rfl
  have lk : (Instr.lookup 56 (.map (some mb)) (.int .u32 id) true).run Try.prog w = .ok (.tuple #[.int .i64 0, .bool false]) w := by
    have := hD.look (P := Try.prog) (t := 56) (z := .int .i64 0) rfl rfl rfl id
    rw [where_none' hD2 hhas] at this; exact this
  clear hD1 hD2 hD h
  go_enter Try.func13, Try.ntmps13
  go_wp2
  go_ret2
  exact ⟨rfl, rfl⟩
theorem at_nil (w : World) (id : Int) : Calls Try.prog 13 #[.pointer none, .int .u32 id] w fun e w' => e = .returned (.tuple #[.int .u64 0, .bool false]) ∧ w' = w := by
  go_enter Try.func13, Try.ntmps13
  go_wp2
  go_ret2
  exact ⟨rfl, rfl⟩

set_option maxRecDepth 100000 in
set_option maxHeartbeats 2000000 in
theorem next_c {w : World} {t mb n : Nat} {sv : Value} {f : Nat → Ent} (h : Tm w t mb sv n f) (hn : 0 < n) :
    Calls Try.prog 11 #[.pointer (some ⟨t, 0, none⟩)] w fun e w' => e = .returned (.tuple #[.int .u32 (f 0).1, .int .u64 (f 0).2, .bool true]) ∧ Below w.heap.size w w' := by
  obtain ⟨g, cap, cur, rfl, hb, h1, h2, h3, h4⟩ := h.pos (by omega)
  have ht := h.blk.lt
  have hg := hb.lt
  have few := h.few
  have c0 : w.cell? ⟨t, 0, none⟩ = some (.slice (some ⟨g, 0, none⟩) n cap) := h.blk.cellv rfl
  have d0 : w.cell? ⟨g, 0, none⟩ = some (.int .u32 (f 0).1) := hb.cellv (h4 0 hn).1
  have d1 : w.cell? ⟨g, 1, none⟩ = some (.int .u64 (f 0).2) := hb.cellv (h4 0 hn).2
  have H := hid h
  clear h4 h hb
  go_enter Try.func11, Try.ntmps11
  go_wp2_with (go_at_call 10; refine (len_c H.out).mono ?_; rintro e w1 ⟨rfl, rfl⟩)
  go_region
  go_wp2
  go_ret3
  exact ⟨rfl, (Below.refl _ _).drew⟩
theorem next_empty {w : World} {t mb : Nat} {sv : Value} {f : Nat → Ent} (h : Tm w t mb sv 0 f) :
    Calls Try.prog 11 #[.pointer (some ⟨t, 0, none⟩)] w fun e w' => e = .returned (.tuple #[.int .u32 0, .int .u64 0, .bool false]) ∧ w' = w := by
  have H := hid h
  clear h
  go_enter Try.func11, Try.ntmps11
  go_wp2_with (go_at_call 10; refine (len_c H.out).mono ?_; rintro e w1 ⟨rfl, rfl⟩)
  go_ret3
  exact ⟨rfl, rfl⟩
theorem next_nil (w : World) : Calls Try.prog 11 #[.pointer none] w fun e w' => e = .returned (.tuple #[.int .u32 0, .int .u64 0, .bool false]) ∧ w' = w := by
  go_enter Try.func11, Try.ntmps11
  go_wp2_with (go_at_call 10; refine (len_nil _).mono ?_; rintro e w1 ⟨rfl, rfl⟩)
  go_ret3
  exact ⟨rfl, rfl⟩

theorem new_c (w : World) : Calls Try.prog 7 #[] w fun e w' => e = .returned (.pointer (some ⟨w.heap.size + 1, 0, none⟩)) ∧ Below w.heap.size w w' ∧ Tm w' (w.heap.size + 1) w.heap.size (.slice none 0 0) 0 (fun _ => (0, 0)) := by
  have hm : (Instr.makeMap 56 none).run Try.prog w = .ok (.map (some w.heap.size)) (w.alloc (.map #[] 0)) := rfl
  go_enter Try.func7, Try.ntmps7
  go_wp2
  go_ret
  refine ⟨by simp, ((Below.refl _ _).alloc (Nat.le_refl _) _).alloc (by simp) _, ?_, Or.inl ⟨rfl, rfl⟩, ⟨fun _ => none, ?_, fun k hk => absurd hk (by omega), fun x v h => by cases h⟩, fun a b ha => absurd ha (by omega), by omega⟩
  · have := Blk.new (w.alloc (.map #[] 0)) #[.slice none 0 0, .map (some w.heap.size)] 59
    simpa using this
  · refine IMap.empty ?_
    rw [Below.heap_alloc _ _ _ (by simp)]
    exact heap_alloc_new w _
end Go.Proofs.Ytfolgjgkeheaoaa
