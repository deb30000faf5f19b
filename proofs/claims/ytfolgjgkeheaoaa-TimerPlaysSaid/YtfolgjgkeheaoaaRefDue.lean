/- The document's Due, and 'same'. -/
import Derived.Test.YtfolgjgkeheaoaaRefCancel
namespace Go.Proofs.Ytfolgjgkeheaoaa
open Go.RowKit Go.ChangeMaps

/-- v is a slice of these numbers. -/
def Nums (w : World) (v : Value) (l : List Int) : Prop :=
  ∃ p cap, v = .slice p l.length cap ∧ l.length ≤ cap ∧ cap ≤ maxLen ∧ (0 < l.length → ∃ b off, p = some ⟨b, off, none⟩ ∧ b < w.heap.size) ∧
    ∀ b off, p = some ⟨b, off, none⟩ → ∀ i, i < l.length → w.cell? ⟨b, off + i, none⟩ = some (.int .u32 (l.getD i 0))
theorem own_nums {w : World} {base : Nat} {v : Value} {l : List Int} {n : Nat} (hn : l.length = n) (h : w.ownsRow base 22 1 v n (l.map (Value.int .u32))) : Nums w v l := by
  subst hn
  rcases h.2 with ⟨rfl, h0⟩ | ⟨g, cap, cur, rfl, h1, h2, h3, h4, h5, h6⟩
  · exact ⟨none, 0, by rw [h0], by omega, Nat.zero_le _, fun hp => by omega, fun b off e => by cases e⟩
  · refine ⟨_, cap, rfl, h3, h4, fun _ => ⟨g, 0, rfl, (Array.getElem?_eq_some_iff.1 h2).1⟩, fun b off e i hi => ?_⟩
    cases e
    have hb : Blk w g cur 22 := h2
    rw [Nat.zero_add]
    refine hb.cellv ?_
    rw [← Array.getElem?_toList, ← List.getElem?_take_of_lt (show i < l.length * 1 by omega), h6, List.getElem?_map, List.getElem?_eq_getElem hi, List.getD_eq_getElem?_getD, List.getElem?_eq_getElem hi]; rfl
theorem Nums.below {w w' : World} {v : Value} {l : List Int} (h : Nums w v l) (hb : Below w.heap.size w w') : Nums w' v l := by
  obtain ⟨p, cap, rfl, h1, h2, h3, h4⟩ := h
  refine ⟨p, cap, rfl, h1, h2, fun hp => ?_, fun b off e i hi => ?_⟩
  · obtain ⟨b, off, e, hl⟩ := h3 hp
    exact ⟨b, off, e, Nat.lt_of_lt_of_le hl hb.size⟩
  · obtain ⟨b', off', e', hl⟩ := h3 (by omega)
    rw [e] at e'; cases e'
    exact (hb.cell hl).trans (h4 b off e i hi)

set_option maxRecDepth 100000 in
set_option maxHeartbeats 2000000 in
theorem same_c {w : World} {va vb : Value} {l : List Int} (ha : Nums w va l) (hb : Nums w vb l) :
    Calls Try.prog 19 #[va, vb] w fun e w' => e = .returned (.bool true) ∧ Below w.heap.size w w' := by
  obtain ⟨p, cap, rfl, h1, h2, h3, h4⟩ := ha
  obtain ⟨q, cap', rfl, g1, g2, g3, g4⟩ := hb
  have hl' : l.length ≤ 9223372036854775807 := by have : maxLen = 9223372036854775807 := rfl; omega
  have H3 := hid h3; have H4 := hid h4; have G3 := hid g3; have G4 := hid g4
  clear h3 h4 g3 g4
  go_enter Try.func19, Try.ntmps19
  go_wp2
  go_loopg [5] l.length (fun g v5 wr => ∃ k : Nat, v5 = .int .i64 k ∧ g = l.length - k ∧ k ≤ l.length ∧ Hid (Below w.heap.size w wr))
  case atStart => exact ⟨0, rfl, rfl, by omega, hid (Below.refl _ _)⟩
  case round =>
    obtain ⟨k, rfl, hg, hk, L⟩ := hrel
    by_cases hk0 : k < l.length
    · obtain ⟨b, off, rfl, hb⟩ := H3.out (by omega)
      obtain ⟨b', off', rfl, hb'⟩ := G3.out (by omega)
      have c0 : wr.cell? ⟨b, off + k, none⟩ = some (.int .u32 (l.getD k 0)) := (L.out.cell hb).trans (H4.out b off rfl k hk0)
      have c1 : wr.cell? ⟨b', off' + k, none⟩ = some (.int .u32 (l.getD k 0)) := (L.out.cell hb').trans (G4.out b' off' rfl k hk0)
      generalize l.getD k 0 = x at c0 c1
      have hbl := Nat.lt_of_lt_of_le hb L.out.size
      have hbl' := Nat.lt_of_lt_of_le hb' L.out.size
      go_wp2
      go_region
      all_goals
        go_wp2
        go_roundg (l.length - (k + 1))
        case measure => omega
        case rel => exact ⟨k + 1, by go_num, rfl, by omega, hid L.out.drew⟩
    · have hke : k = l.length := by omega
      subst hke
      go_wp2
      go_ret
      exact ⟨rfl, L.out⟩
end Go.Proofs.Ytfolgjgkeheaoaa
