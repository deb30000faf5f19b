/- Sectors are taken. -/
import Derived.Test.YtdmlldhlfofegaaDoorLow
import Derived.Maps.AppendAt
namespace Go.Proofs.YtdmlldhlfofegaaDoor
open Go.RowKit

theorem info33 : (Tryd.prog.info? 33).map (fun i => (i.zero, i.size, i.bytes)) = some (some (.int .u32 0), 1, 4) := by kernel_rfl
/-- The free sectors below p. -/
def frees (U : Nat → Bool) (p : Nat) : List Nat := (List.range p).filter (fun i => !U i)
theorem frees_succ (U : Nat → Bool) (p : Nat) : frees U (p + 1) = frees U p ++ (if U p then [] else [p]) := by
  unfold frees
  rw [List.range_succ, List.filter_append]
  congr 1
  cases h : U p <;> simp [h]
theorem frees_len (U : Nat → Bool) (p : Nat) : (frees U p).length + cnt U p = p := by
  induction p with
  | zero => rfl
  | succ p ih =>
    rw [frees_succ, cnt]
    cases h : U p <;> simp <;> omega
theorem frees_mono (U : Nat → Bool) {p q : Nat} (h : p ≤ q) : (frees U p).length ≤ (frees U q).length := by
  induction q with
  | zero => have : p = 0 := by omega
            subst this; exact Nat.le_refl _
  | succ q ih =>
    by_cases e : p = q + 1
    · subst e; exact Nat.le_refl _
    · have := ih (by omega)
      rw [frees_succ, List.length_append]; omega
/-- Where k sectors end. -/
def Ends (U : Nat → Bool) (k p : Nat) : Prop := (frees U p).length = k ∧ (k = 0 → p = 0) ∧ (0 < k → 0 < p ∧ U (p - 1) = false)
theorem Ends.inj {U : Nat → Bool} {k p q : Nat} (a : Ends U k p) (b : Ends U k q) : p = q := by
  obtain ⟨a1, a2, a3⟩ := a
  obtain ⟨b1, b2, b3⟩ := b
  by_cases hk : k = 0
  · rw [a2 hk, b2 hk]
  · have key : ∀ {p q : Nat}, (frees U p).length = k → 0 < q → U (q - 1) = false → (frees U q).length = k → p < q → False := by
      intro p q hp h0 h1 hq hlt
      have e : q = (q - 1) + 1 := by omega
      rw [e, frees_succ, List.length_append] at hq
      rw [h1] at hq
      have := frees_mono U (show p ≤ q - 1 by omega)
      simp at hq
      omega
    have h1 := a3 (by omega)
    have h2 := b3 (by omega)
    by_cases hlt : p < q
    · exact (key a1 h2.1 h2.2 b1 hlt).elim
    · by_cases hgt : q < p
      · exact (key b1 h1.1 h1.2 a1 hgt).elim
      · omega
/-- The next free sector. -/
theorem next_free (U : Nat → Bool) (p : Nat) {n : Nat} (h : (frees U p).length < (frees U n).length) : ∃ i, p ≤ i ∧ i < n ∧ U i = false ∧ (∀ j, p ≤ j → j < i → U j = true) ∧ frees U (i + 1) = frees U p ++ [i] := by
  have key : ∀ d, (frees U p).length < (frees U (p + d)).length → ∃ i, p ≤ i ∧ i < p + d ∧ U i = false ∧ (∀ j, p ≤ j → j < i → U j = true) ∧ frees U i = frees U p := by
    intro d
    induction d with
    | zero => intro h; simp at h
    | succ d ih =>
      intro h
      by_cases h2 : (frees U p).length < (frees U (p + d)).length
      · obtain ⟨i, a, b, c, e, f⟩ := ih h2
        exact ⟨i, a, by omega, c, e, f⟩
      · have hall : ∀ m, m ≤ d → frees U (p + m) = frees U p ∧ ∀ j, p ≤ j → j < p + m → U j = true := by
          intro m
          induction m with
          | zero => intro _; exact ⟨rfl, fun j h1 h2 => by omega⟩
          | succ m ihm =>
            intro hm
            obtain ⟨g1, g2⟩ := ihm (by omega)
            have hU : U (p + m) = true := by
              cases hc : U (p + m) with
              | true => rfl
              | false =>
                have := frees_mono U (show p + m + 1 ≤ p + d by omega)
                rw [frees_succ, hc, List.length_append, g1] at this
                simp at this; omega
            refine ⟨by rw [show p + (m + 1) = (p + m) + 1 by omega, frees_succ, hU, g1]; simp, fun j h1 h2 => ?_⟩
            by_cases e : j = p + m
            · subst e; exact hU
            · exact g2 j h1 (by omega)
        obtain ⟨g1, g2⟩ := hall d (Nat.le_refl _)
        have hU : U (p + d) = false := by
          cases hc : U (p + d) with
          | false => rfl
          | true =>
            rw [show p + (d + 1) = (p + d) + 1 by omega, frees_succ, hc, List.length_append, g1] at h
            simp at h
        exact ⟨p + d, by omega, by omega, hU, g2, g1⟩
  have hpn : p < n := by
    by_cases hlt : p < n
    · exact hlt
    · have := frees_mono U (show n ≤ p by omega); omega
  obtain ⟨i, a, b, c, e, f⟩ := key (n - p) (by rwa [show p + (n - p) = n by omega])
  exact ⟨i, a, by omega, c, e, by rw [frees_succ, c, f]; rfl⟩
theorem own_lt {w : World} {base : Nat} {e : TypeId} {size n : Nat} {v : Value} {xs : List Value} (ho : w.ownsRow base e size v n xs) : ∀ k, v.ownBlock = some k → base ≤ k ∧ k < w.heap.size := by
  intro k hk
  rcases ho.2 with ⟨rfl, _⟩ | ⟨g, cap, cur, rfl, h1, h2, _⟩
  · cases hk
  · cases hk; exact ⟨h1, (Array.getElem?_eq_some_iff.1 h2).1⟩
def u32v (l : List Nat) : List Value := l.map fun (i : Nat) => Value.int .u32 (i : Int)
theorem new_one (w : World) (x : Value) (T : TypeId) : ∀ j u, [x][j]? = some u → (w.alloc (.cells #[x] T)).cell? ((⟨w.heap.size, 0, none⟩ : Addr).add j) = some u := by
  intro j u h
  have hj : j = 0 := by
    have := (List.getElem?_eq_some_iff.1 h).1
    simpa using this
  subst hj
  rw [Addr.add_mid]
  exact ((Blk.new w #[x] T).cellv (i := 0) rfl).trans h

set_option maxRecDepth 100000 in
set_option maxHeartbeats 4000000 in
theorem take_yes {w : World} {b n : Nat} {X : Nat → W64} (M : MapAt w b n X) (T : Tab w) (hb0 : b ≠ 0) (hn : n ≤ 512) (ht : Tight n X) (k : Nat) (hk : k ≤ 8) (hf : k ≤ (frees (used X) n).length) :
    Calls Tryd.prog 12 #[.pointer (some ⟨b, 0, none⟩), .int .i64 k] w fun e w' => ∃ (vv : Value) (p : Nat) (X' : Nat → W64), e = .returned (.tuple #[vv, .int .i64 0]) ∧ Ends (used X) k p ∧ p ≤ n ∧ (∀ j, used X' j = (used X j || decide (j < p))) ∧ MapAt w' b n X' ∧
      w'.ownsRow w.heap.size 33 1 vv k (u32v (frees (used X) p)) ∧ Mod (fun c => c = b) w w' := by
  obtain ⟨i0, hi, hz0, hz1, hz2⟩ := info_parts info33
  have hbw := Fn.lt M
  have HM := hid M
  have HT := hid T
  have hlen := frees_len (used X) n
  have FC := hid (fun w' (M : MapAt w' b n X) => free_c M hn ht)
  have HF := hid hf
  have hfr : (k : Int) ≤ (n : Int) - (cnt (used X) n : Nat) := by omega
  clear M T ht hf hlen
  generalize hcn : (n : Int) - (cnt (used X) n : Nat) = fr at *
  clear hcn
  go_enter Tryd.func12, Tryd.ntmps12
  go_wp2_with (go_at_call 11; refine (FC.out _ HM.out).mono ?_; rintro e w' ⟨rfl, rfl⟩)
  go_loopg [6, 7, 25] k (fun g v6 _ v25 wr => ∃ (t p : Nat) (X' : Nat → W64), v25 = .int .i64 t ∧ g = k - t ∧ t ≤ k ∧ p ≤ n ∧ Hid (Ends (used X) t p) ∧ Hid (∀ j, used X' j = (used X j || decide (j < p))) ∧ Hid (MapAt wr b n X') ∧ Hid (wr.ownsRow w.heap.size 33 1 v6 t (u32v (frees (used X) p))) ∧ Hid (Mod (fun c => c = b) w wr) ∧ Hid (Tab wr))
  case atStart => exact ⟨0, 0, X, rfl, rfl, by omega, by omega, hid ⟨rfl, fun _ => rfl, fun h => by omega⟩, hid (fun j => by simp), HM, hid (World.ownsRow_nil _ _ _ _), hid (Mod.refl _ _), HT⟩
  case round =>
    obtain ⟨t, p, X', rfl, rfl, htk, hpn, E, HX, HM2, O, R, T2⟩ := hrel
    by_cases hlt : t < k
    · obtain ⟨i, p1, p2, p3, p4, p5⟩ := next_free (used X) p (n := n) (by have := E.out.1; have := HF.out; omega)
      have q1 : used X' i = false := by rw [HX.out, p3, decide_eq_false (by omega)]; rfl
      have q2 : ∀ j, j < i → used X' j = true := fun j hj => by
        rw [HX.out]
        by_cases e : j < p
        · rw [decide_eq_true e, Bool.or_true]
        · rw [p4 j (by omega) hj]; rfl
      have CL := hid (low_c HM2.out T2.out i (by omega) q1 q2)
      have HX3 := hid (show ∀ j, used (setX X' i) j = (used X j || decide (j < i + 1)) from fun j => by
        rw [used_set, HX.out, Bool.eq_iff_iff]
        simp only [Bool.or_eq_true, decide_eq_true_eq]
        constructor
        · rintro ((h | h) | h)
          · exact Or.inl h
          · exact Or.inr (by omega)
          · exact Or.inr (by omega)
        · rintro (h | h)
          · exact Or.inl (Or.inl h)
          · by_cases e : j < p
            · exact Or.inl (Or.inr e)
            · by_cases e2 : j = i
              · exact Or.inr e2
              · exact Or.inl (Or.inl (p4 j (by omega) (by omega))))
      have E3 := hid (show Ends (used X) (t + 1) (i + 1) from ⟨by rw [p5, List.length_append, E.out.1]; rfl, fun h => by omega, fun _ => ⟨by omega, p3⟩⟩)
      have F3 := hid (show u32v (frees (used X) (i + 1)) = u32v (frees (used X) p) ++ [.int .u32 (i : Int)] by rw [p5]; simp [u32v])
      clear p3 p4 p5 q1 q2
      go_wp2_with first
        | (at_builtin; refine wpList_append_own_at _ rfl (.tmp 32) (.tmp 35) 30 rfl w.heap.size 33 i0 (.int .u32 0) 1 4 rfl hi hz0 hz1 hz2 rfl (by decide) _ t (u32v (frees (used X) p)) rfl (O3.out.alloc _) ⟨w3.heap.size, 0, none⟩ 1 1 [.int .u32 (i : Int)] rfl rfl (new_one w3 _ _) (by simp [Value.oneCell']) (by unfold maxLen; omega) (by omega) (by have := R3.out.size; simp; omega) ?_; intro v4 w4 hown4 hg4 _ hv4; have O4 := hid hown4; have G4 := hid hg4; clear hown4 hg4 hv4)
        | (go_at_call 30; refine (set_c HM2.out i (by omega)).mono ?_; rintro e w3 ⟨rfl, hM, hR⟩; have M3 := hid hM; have R3 := hid (R.out.trans hR); have O3 := hid (hR.row O.out (fun c hc h => by have := own_lt O.out c hc; omega)); have T3 := hid (T2.out.mod hR (fun h => hb0 h.symm)); clear hM hR)
        | (go_at_call 29; refine CL.out.mono ?_; rintro e w2 ⟨rfl, rfl⟩)
      go_roundg (k - (t + 1))
      case measure => omega
      case rel =>
        have MG : Mod (fun c => w.heap.size ≤ c) _ w4 := Mod.of_grown G4.out (fun c hc => (own_lt O3.out c hc).1)
        exact ⟨t + 1, i + 1, setX X' i, by go_num, rfl, by omega, by omega, E3, HX3, hid (Fn.mod (Fn.alloc M3.out _) MG (by omega)), hid (by rw [F3.out]; exact O4.out), hid ((R3.out.alloc _).step MG (fun c hc h => by omega)),
          hid ((T3.out.below (Below.alloc (Below.refl _ _) (Nat.le_refl _) _) T3.out.lt).mod MG (by omega))⟩
    · have htk2 : t = k := by omega
      subst htk2
      go_wp2_with fail
      go_ret2
      exact ⟨_, p, X', rfl, E.out, hpn, HX.out, HM2.out, O.out, R.out⟩
end Go.Proofs.YtdmlldhlfofegaaDoor
