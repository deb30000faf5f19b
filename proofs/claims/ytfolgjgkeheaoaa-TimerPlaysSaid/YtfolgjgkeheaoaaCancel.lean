/- Cancel takes a number out; Due takes out those that are due. -/
import Derived.Test.YtfolgjgkeheaoaaRemove
import Derived.Test.YtfolgjgkeheaoaaSmall
namespace Go.Proofs.Ytfolgjgkeheaoaa
open Go.RowKit Go.ChangeMaps

set_option maxRecDepth 100000 in
set_option maxHeartbeats 2000000 in
theorem cancel_old {w : World} {t mb m : Nat} {sv : Value} {f : Nat → Ent} (h : Tm w t mb sv (m + 1) f) (hh : Heap (m + 1) f) {i : Nat} (hi : i < m + 1) {id : Int} (hid : id = (f i).1) :
    Calls Try.prog 15 #[.pointer (some ⟨t, 0, none⟩), .int .u32 id] w fun e w' => e = .returned (.bool true) ∧ Mod (fun k => k = t ∨ Own sv mb k) w w' ∧
      ∃ sv' f', sv'.ownBlock = sv.ownBlock ∧ Tm w' t mb sv' m f' ∧ Heap m f' ∧ ∀ p, In m f' p ↔ p.1 ≠ id ∧ In (m + 1) f p := by
  subst hid
  obtain ⟨D, hD, hD1, hD2⟩ := h.map
  have ht := h.blk.lt
  have c1 : w.cell? ⟨t, 1, none⟩ = some (.map (some mb)) := h.blk.cellv rfl
  have lk : (Instr.lookup 56 (.map (some mb)) (.int .u32 (f i).1) true).run Try.prog w = .ok (.tuple #[.int .i64 (i : Int), .bool true]) w := by
    have := hD.look (P := Try.prog) (t := 56) (z := .int .i64 0) rfl rfl rfl (f i).1
    rw [hD1 i hi] at this; exact this
  have H := hid h; have HH := hid hh
  clear hD1 hD2 hD h hh
  go_enter Try.func15, Try.ntmps15
  go_wp2_with (go_at_call 21; refine (remove_c H.out HH.out rfl hi).mono ?_; rintro e w1 ⟨rfl, M1, R1⟩; have M1' := Go.Proofs.Ytfolgjgkeheaoaa.hid M1; have R1' := Go.Proofs.Ytfolgjgkeheaoaa.hid R1; clear M1 R1)
  go_ret
  exact ⟨rfl, M1'.out, R1'.out⟩
set_option maxRecDepth 100000 in
set_option maxHeartbeats 2000000 in
theorem cancel_none {w : World} {t mb n : Nat} {sv : Value} {f : Nat → Ent} (h : Tm w t mb sv n f) {id : Int} (hhas : ¬ Has n f id) :
    Calls Try.prog 15 #[.pointer (some ⟨t, 0, none⟩), .int .u32 id] w fun e w' => e = .returned (.bool false) ∧ w' = w := by
  obtain ⟨D, hD, hD1, hD2⟩ := h.map
  have ht := h.blk.lt
  have c1 : w.cell? ⟨t, 1, none⟩ = some (.map (some mb)) := h.blk.cellv rfl
  have lk : (Instr.lookup 56 (.map (some mb)) (.int .u32 id) true).run Try.prog w = .ok (.tuple #[.int .i64 0, .bool false]) w := by
    have := hD.look (P := Try.prog) (t := 56) (z := .int .i64 0) rfl rfl rfl id
    rw [where_none' hD2 hhas] at this; exact this
  clear hD1 hD2 hD h
  go_enter Try.func15, Try.ntmps15
  go_wp2
  go_ret
  exact ⟨rfl, rfl⟩
theorem cancel_nil (w : World) (id : Int) : Calls Try.prog 15 #[.pointer none, .int .u32 id] w fun e w' => e = .returned (.bool false) ∧ w' = w := by
  go_enter Try.func15, Try.ntmps15
  go_wp2
  go_ret
  exact ⟨rfl, rfl⟩
end Go.Proofs.Ytfolgjgkeheaoaa
