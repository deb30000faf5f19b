/- A date's text leads back to it. -/
import Derived.Test.YthlggjchgngefaaTold
namespace Go.Proofs.Ythlggjchgngefaa
open Go.RowKit

theorem mid {l a b c : List UInt8} {p k : Nat} (h : l = a ++ b ++ c) (ha : a.length = p) (hb : b.length = k) : (l.drop p).take k = b := by
  subst h ha hb
  rw [List.append_assoc, List.drop_left, List.take_left]
theorem at_mid {s : ByteArray} {a c : List UInt8} {x : UInt8} {p : Nat} (h : s.data.toList = a ++ [x] ++ c) (ha : a.length = p) : bt s p = x.toNat := by
  unfold bt
  rw [h, List.getD_eq_getElem?_getD, List.append_assoc, List.getElem?_append_right (by omega), ha]
  simp
theorem nm_digs {s : ByteArray} {a c : List UInt8} {n : Int} {p k : Nat} (h : s.data.toList = a ++ Cal.digs k n ++ c) (ha : a.length = p) (h0 : 0 ≤ n) (h1 : n < 10 ^ k) : nm s p k = n := by
  unfold nm seg numOr
  rw [mid h ha (Cal.digs_length k n), Cal.num_digs k n 0 h0 h1]
  simp
theorem parse_text {t y m d h mi s : Int} (hD : DateOf t y m d h mi s) {e : Ending} (hA : ParseAns ⟨(text y m d h mi s).toArray⟩ e) : e = .returned (.tuple #[.int .u64 t, .int .i64 0]) := by
  obtain ⟨hv, ht, htn⟩ := hD
  obtain ⟨g1, g2, g3, g4⟩ := hv.in_
  have hv' := hv
  obtain ⟨v1, v2⟩ := hv
  have ht' := ht
  obtain ⟨p1, p2, p3, p4, p5, p6⟩ := ht
  obtain ⟨b1, b2⟩ := Cal.dim_range y m
  obtain ⟨S, hS⟩ : ∃ S : ByteArray, S = ⟨(text y m d h mi s).toArray⟩ := ⟨_, rfl⟩
  rw [← hS] at hA
  have hl : S.data.toList = text y m d h mi s := by rw [hS]
  have D := Cal.digs_length
  have n0 : nm S 0 4 = y := nm_digs (a := []) (c := [45] ++ Cal.digs 2 m ++ [45] ++ Cal.digs 2 d ++ [84] ++ Cal.digs 2 h ++ [58] ++ Cal.digs 2 mi ++ [58] ++ Cal.digs 2 s) (by rw [hl]; simp [text]) rfl (by omega) (by omega)
  have n1 : nm S 5 2 = m := nm_digs (a := Cal.digs 4 y ++ [45]) (c := [45] ++ Cal.digs 2 d ++ [84] ++ Cal.digs 2 h ++ [58] ++ Cal.digs 2 mi ++ [58] ++ Cal.digs 2 s) (by rw [hl]; simp [text]) (by simp [D]) (by omega) (by omega)
  have n2 : nm S 8 2 = d := nm_digs (a := Cal.digs 4 y ++ [45] ++ Cal.digs 2 m ++ [45]) (c := [84] ++ Cal.digs 2 h ++ [58] ++ Cal.digs 2 mi ++ [58] ++ Cal.digs 2 s) (by rw [hl]; simp [text]) (by simp [D]) (by omega) (by omega)
  have n3 : nm S 11 2 = h := nm_digs (a := Cal.digs 4 y ++ [45] ++ Cal.digs 2 m ++ [45] ++ Cal.digs 2 d ++ [84]) (c := [58] ++ Cal.digs 2 mi ++ [58] ++ Cal.digs 2 s) (by rw [hl]; simp [text]) (by simp [D]) (by omega) (by omega)
  have n4 : nm S 14 2 = mi := nm_digs (a := Cal.digs 4 y ++ [45] ++ Cal.digs 2 m ++ [45] ++ Cal.digs 2 d ++ [84] ++ Cal.digs 2 h ++ [58]) (c := [58] ++ Cal.digs 2 s) (by rw [hl]; simp [text]) (by simp [D]) (by omega) (by omega)
  have n5 : nm S 17 2 = s := nm_digs (a := Cal.digs 4 y ++ [45] ++ Cal.digs 2 m ++ [45] ++ Cal.digs 2 d ++ [84] ++ Cal.digs 2 h ++ [58] ++ Cal.digs 2 mi ++ [58]) (c := []) (by rw [hl]; simp [text]) (by simp [D]) (by omega) (by omega)
  have s4 : bt S 4 = 45 := at_mid (a := Cal.digs 4 y) (x := 45) (c := Cal.digs 2 m ++ [45] ++ Cal.digs 2 d ++ [84] ++ Cal.digs 2 h ++ [58] ++ Cal.digs 2 mi ++ [58] ++ Cal.digs 2 s) (by rw [hl]; simp [text]) (by simp [D])
  have s7 : bt S 7 = 45 := at_mid (a := Cal.digs 4 y ++ [45] ++ Cal.digs 2 m) (x := 45) (c := Cal.digs 2 d ++ [84] ++ Cal.digs 2 h ++ [58] ++ Cal.digs 2 mi ++ [58] ++ Cal.digs 2 s) (by rw [hl]; simp [text]) (by simp [D])
  have s10 : bt S 10 = 84 := at_mid (a := Cal.digs 4 y ++ [45] ++ Cal.digs 2 m ++ [45] ++ Cal.digs 2 d) (x := 84) (c := Cal.digs 2 h ++ [58] ++ Cal.digs 2 mi ++ [58] ++ Cal.digs 2 s) (by rw [hl]; simp [text]) (by simp [D])
  have s13 : bt S 13 = 58 := at_mid (a := Cal.digs 4 y ++ [45] ++ Cal.digs 2 m ++ [45] ++ Cal.digs 2 d ++ [84] ++ Cal.digs 2 h) (x := 58) (c := Cal.digs 2 mi ++ [58] ++ Cal.digs 2 s) (by rw [hl]; simp [text]) (by simp [D])
  have s16 : bt S 16 = 58 := at_mid (a := Cal.digs 4 y ++ [45] ++ Cal.digs 2 m ++ [45] ++ Cal.digs 2 d ++ [84] ++ Cal.digs 2 h ++ [58] ++ Cal.digs 2 mi) (x := 58) (c := Cal.digs 2 s) (by rw [hl]; simp [text]) (by simp [D])
  have hz : S.size = 19 := by
    have : S.size = S.data.toList.length := by simp
    rw [this, hl]; simp [text, D]
  rcases hA with ⟨_, _, hj⟩ | ⟨hn, _⟩
  · rw [n0, n1, n2, n3, n4, n5] at hj
    rcases hj with ⟨_, rfl⟩ | ⟨hno, _⟩
    · rw [htn]
    · rw [okB_iff.2 ⟨hv', ht'⟩] at hno; cases hno
  · exact absurd ⟨⟨hz, s4, s7, s10, s13, s16⟩, by unfold Nums; rw [n0, n1, n2, n3, n4, n5]; omega⟩ hn
end Go.Proofs.Ythlggjchgngefaa
