/- Bytes as strings. -/
import Derived.Test.YtkehejkjifgieaaNum1
import Derived.Lib.ConvBytes
namespace Go.Proofs.Ytkehejkjifgieaa
open Go.RowKit Go.ChangeMaps

def str (xs : List W8) : ByteArray := ⟨(xs.map (fun b => (⟨b⟩ : UInt8))).toArray⟩
def unstr (s : ByteArray) : List W8 := s.data.toList.map (·.toBitVec)
theorem str_size (xs : List W8) : (str xs).size = xs.length := by show (xs.map _).toArray.size = _; simp
theorem unstr_length (s : ByteArray) : (unstr s).length = s.size := by unfold unstr; rw [List.length_map, Array.length_toList]; rfl
theorem unstr_str (xs : List W8) : unstr (str xs) = xs := by
  unfold unstr str
  simp only [List.map_map]
  conv => rhs; rw [← List.map_id xs]
  exact List.map_congr_left (fun x _ => rfl)
theorem str_unstr (s : ByteArray) : str (unstr s) = s := by
  unfold str unstr
  rw [List.map_map]
  have : (fun b => (⟨b⟩ : UInt8)) ∘ (fun (x : UInt8) => x.toBitVec) = id := funext fun x => rfl
  rw [this, List.map_id]
theorem str_inj {xs ys : List W8} : str xs = str ys ↔ xs = ys := ⟨fun h => by rw [← unstr_str xs, h, unstr_str], fun h => by rw [h]⟩
theorem str_toList (xs : List W8) : (str xs).toList = xs.map (fun b => (⟨b⟩ : UInt8)) := by rw [ByteArray.toList_eq]; simp [str]
theorem str_beq (xs ys : List W8) : ((str xs).toList == (str ys).toList) = decide (xs = ys) := by
  rw [str_toList, str_toList, Bool.eq_iff_iff]
  simp only [beq_iff_eq, decide_eq_true_eq]
  constructor
  · intro h
    have := congrArg (List.map (fun x : UInt8 => x.toBitVec)) h
    simpa [List.map_map, Function.comp_def] using this
  · intro h; rw [h]
theorem str_nil : str [] = ⟨#[]⟩ := rfl
set_option maxRecDepth 100000 in
/-- The bytes as a string. -/
theorem conv_str {W : World} {p : Option Addr} {n cap : Nat} {xs : List W8} (h : Bytes W (.slice p n cap) xs) : (convert 29 9 (.slice p n cap)).run Try.prog W = .ok (.string (str xs)) W := by
  obtain ⟨p', cap', e, hq⟩ := h
  cases e
  by_cases h0 : 0 < xs.length
  · obtain ⟨b, off, rfl, _, _, _, hS⟩ := hq h0
    have := run_convert_bytes_back (P := Try.prog) W 29 9 5 ⟨b, off, none⟩ cap (xs.map (fun b => (⟨b⟩ : UInt8))) Try.underlying29 Try.underlying5 Try.underlying9 (fun j hj => by
      have hj' : j < xs.length := by simpa using hj
      have := hS j hj'
      rw [Addr.add_mid, this, List.getElem_map, List.getD_eq_getElem?_getD, List.getElem?_eq_getElem hj']; rfl)
    rw [List.length_map] at this
    exact this
  · have : xs = [] := List.eq_nil_of_length_eq_zero (by omega)
    subst this
    cases p with
    | none => rfl
    | some ad => rfl
theorem conv_str' {W : World} {v : Value} {xs : List W8} (h : Bytes W v xs) : (convert 29 9 v).run Try.prog W = .ok (.string (str xs)) W := by
  have h' := h
  obtain ⟨p, c, e, _⟩ := h
  subst e
  exact conv_str h'
/-- A string's bytes, in new memory. -/
theorem conv_bts (W : World) (s : ByteArray) : (convert 9 29 (.string s)).run Try.prog W = .ok (.slice (some ⟨W.heap.size, 0, none⟩) s.size (grownCap W s.size 0 5)) (Go.Lib.bytesWorld W 5 s) :=
  Go.Lib.run_convert_string_bytes W _ _ 5 s Try.underlying9 Try.underlying29 Try.underlying5
theorem bts_below (W : World) (s : ByteArray) : Below W.heap.size W (Go.Lib.bytesWorld W 5 s) :=
  ⟨rfl, rfl, rfl, by rw [Go.Lib.bytesWorld_size]; omega, fun k hk => Go.Lib.bytesWorld_at_old W _ s k hk⟩
theorem bts_bytes (W : World) (s : ByteArray) (hs : s.size ≤ 1000000) : Bytes (Go.Lib.bytesWorld W 5 s) (.slice (some ⟨W.heap.size, 0, none⟩) s.size (grownCap W s.size 0 5)) (unstr s) := by
  refine ⟨_, _, by rw [unstr_length], fun h0 => ⟨W.heap.size, 0, rfl, by rw [Go.Lib.bytesWorld_size]; omega, ?_, ?_, fun i hi => ?_⟩⟩
  · rw [unstr_length]; exact grownCap_ge _ _ _ _
  · exact grownCap_le_maxLen _ _ _ _ (by unfold maxLen; omega)
  · rw [unstr_length] at hi
    rw [Nat.zero_add, Go.Lib.bytesWorld_cell W _ s i hi]
    have hi' : i < s.data.toList.length := by rw [Array.length_toList]; exact hi
    congr 2
    unfold ub unstr
    rw [List.getD_eq_getElem?_getD, List.getD_eq_getElem?_getD, List.getElem?_map, List.getElem?_eq_getElem hi']
    rfl
end Go.Proofs.Ytkehejkjifgieaa
