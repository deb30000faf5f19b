/- The document's first 64 primes; its 'root' for both. -/
import Derived.Test.YtoegpjfpfhjbkaaRootCu
import Derived.Test.YtoegpjfpfhjbkaaRefPad
namespace Go.Proofs.Ytoegpjfpfhjbkaa
open Go.RowKit Go.ChangeMaps

theorem root_c (w : World) (p : Nat) (hp : p < 65536) (b : Bool) : Calls Try.prog 27 #[.int .u64 (p : Int), .bool b] w fun e w' => e = .returned (.int .u32 ((rootN p b % 4294967296 : Nat) : Int)) ∧ Below w.heap.size w w' := by
  cases b
  · exact root_sq w p hp
  · exact root_cu w p hp
theorem info49 : (Try.prog.info? 49).map (fun i => (i.zero, i.size, i.bytes)) = some (some (.int .u64 0), 1, 8) := by kernel_rfl
def nv (l : List Nat) : List Value := l.map (fun q : Nat => .int .u64 (q : Int))
theorem nv_one (l : List Nat) : ∀ u ∈ nv l, u.oneCell' = true := by intro u hu; unfold nv at hu; obtain ⟨x, _, rfl⟩ := List.mem_map.1 hu; rfl
theorem own_row {w : World} {base n c : Nat} {p : Option Addr} {xs : List Value} {T : TypeId} (h : w.ownsRow base T 1 (.slice p n c) n xs) (hn : 0 < n) :
    ∃ g, p = some ⟨g, 0, none⟩ ∧ n ≤ c ∧ c ≤ 9223372036854775807 ∧ base ≤ g ∧ g < w.heap.size ∧ ∀ i v, xs[i]? = some v → w.cell? ⟨g, i, none⟩ = some v := by
  rcases h.2 with ⟨h1, h2⟩ | ⟨g, cap, cur, h1, h2, h3, h4, h5, h6, h7⟩
  · omega
  · injection h1 with e1 e2 e3
    subst e1 e3
    refine ⟨g, rfl, h4, by simpa [maxLen] using h5, h2, (Array.getElem?_eq_some_iff.1 h3).1, fun i v hv => ?_⟩
    rw [cell_of_row w g i cur T (0, 0) h3, ← hv, ← h7, ← Array.getElem?_toList, List.getElem?_take_of_lt]
    rw [← h7] at hv
    have := (List.getElem?_eq_some_iff.1 hv).1
    simp at this; omega
theorem all_step (l : List Nat) (f : Nat → Bool) (i q : Nat) (h : l[i]? = some q) : (l.take (i + 1)).all f = ((l.take i).all f && f q) := by
  rw [List.take_add_one, h, List.all_append]; simp
theorem upto_zero : upto 0 = [] := by decide +kernel
set_option maxRecDepth 100000 in
set_option maxHeartbeats 4000000 in
theorem primes_c (w : World) : Calls Try.prog 26 #[.int .i64 64] w fun e w' => ∃ v, e = .returned v ∧ w'.ownsRow w.heap.size 49 1 v 64 (nv P64) ∧ Below w.heap.size w w' := by
  obtain ⟨i0, hi, hz0, hz1, hz2⟩ := info_parts info49
  have O0 := hid (show (w.alloc (.cells #[] 49)).ownsRow w.heap.size 49 1 (.slice (some ⟨w.heap.size, 0, none⟩) 0 0) (upto 0).length (nv (upto 0)) from by rw [upto_zero]; exact row_empty (Blk.new w #[] 49) (Nat.le_refl _))
  have L0 := hid ((Below.refl w.heap.size w).alloc (Nat.le_refl _) (.cells #[] 49))
  go_enter Try.func26, Try.ntmps26
  go_wp2
  go_loopg [3, 4] 311 (fun g v3 v4 wr => ∃ k : Nat, v4 = .int .u64 ((k + 2 : Nat) : Int) ∧ g = 311 - k ∧ k ≤ 310 ∧ Hid (wr.ownsRow w.heap.size 49 1 v3 (upto k).length (nv (upto k))) ∧ Hid (Below w.heap.size w wr))
  case atStart => exact ⟨0, rfl, rfl, by omega, O0, L0⟩
  case round =>
    obtain ⟨k, rfl, hg, hk, O1, L1⟩ := hrel
    clear O0 L0
    obtain ⟨p3, c3, e3⟩ := own_slice O1.out
    subst e3
    by_cases hk3 : k < 310
    · obtain ⟨l, hl⟩ : ∃ l, l = upto k := ⟨_, rfl⟩
      have hlen := upto_long k hk3
      have HS := hid (upto_small k (by omega))
      have HNX := hid (upto_next k hk3)
      rw [← hl] at O1 hlen HS HNX ⊢
      obtain ⟨P, hP⟩ : ∃ P, P = k + 2 := ⟨_, rfl⟩
      rw [← hP] at HNX ⊢
      have hPb : P < 400 := by omega
      obtain ⟨n, hn⟩ : ∃ n, n = l.length := ⟨_, rfl⟩
      have HN := hid hn
      rw [← hn] at hlen O1 ⊢
      have hlen' : (n : Int) < 64 := by omega
      have HP := hid hP
      clear hl hn hP
      go_wp2
      go_loopg [5, 6] n (fun g v5 v6 wz => ∃ i : Nat, v5 = .bool ((l.take i).all (fun q => P % q != 0)) ∧ v6 = .int .i64 i ∧ g = n - i ∧ i ≤ n ∧ Hid (wz.ownsRow w.heap.size 49 1 (.slice p3 n c3) n (nv l)) ∧ Hid (Below w.heap.size w wz))
      case atStart => exact ⟨0, rfl, rfl, rfl, by omega, O1, L1⟩
      case round =>
        obtain ⟨i, rfl, rfl, hgi, hin, O2, L2⟩ := hrel
        by_cases hi3 : i < n
        · obtain ⟨q, hq⟩ : ∃ q, l[i]? = some q := ⟨_, List.getElem?_eq_getElem (by have := HN.out; omega)⟩
          have hq2 := HS.out q (List.mem_of_getElem? hq)
          obtain ⟨gg, rfl, hnc, hcm, hbg, hgs, hcell⟩ := own_row O2.out (by omega)
          have c0 : wr.cell? ⟨gg, i, none⟩ = some (.int .u64 (q : Int)) := hcell i _ (by unfold nv; rw [List.getElem?_map, hq]; rfl)
          have hst := hid (all_step l (fun q => P % q != 0) i q hq)
          clear hcell hq
          obtain ⟨b, hb⟩ : ∃ b, b = (l.take i).all (fun q => P % q != 0) := ⟨_, rfl⟩
          rw [← hb] at hst ⊢
          clear hb
          obtain ⟨hq3, hq4⟩ := hq2
          have m0 : (0 : Int) ≤ (i : Int) := Int.natCast_nonneg _
          have m1 : (i : Int) < (n : Int) := by omega
          have m2 : ¬ (q : Int) = 0 := by omega
          cases b with
          | false =>
            go_wp2
            go_roundg (n - (i + 1))
            case measure => omega
            case rel => exact ⟨i + 1, by rw [hst.out]; rfl, by go_num, rfl, by omega, O2, L2⟩
          | true =>
            by_cases hz : P % q = 0
            · have hr : (P : Int) % (q : Int) = 0 := by omega
              have hf : (P % q != 0) = false := by rw [hz]; rfl
              rw [hf] at hst
              clear hf hz
              go_wp2
              go_roundg (n - (i + 1))
              case measure => omega
              case rel => exact ⟨i + 1, by rw [hst.out]; rfl, by go_num, rfl, by omega, O2, L2⟩
            · have hr : ((P : Int) % (q : Int) == 0) = false := by simp; omega
              have hr2 : ((P : Int) % (q : Int) != 0) = true := by simp; omega
              have hf : (P % q != 0) = true := by simpa using hz
              rw [hf] at hst
              clear hf hz
              go_wp2
              go_roundg (n - (i + 1))
              case measure => omega
              case rel => exact ⟨i + 1, by rw [hst.out]; rfl, by go_num, rfl, by omega, O2, L2⟩
        · have hin2 : i = n := by omega
          have htk : l.take i = l := by rw [hin2, HN.out]; exact List.take_length
          rw [htk]
          clear htk
          by_cases hall : l.all (fun q => P % q != 0) = true
          · have hup : upto (k + 1) = l ++ [P] := by rw [HNX.out, if_pos hall]
            have HUP := hid hup
            rw [hall]
            clear hall hup hgi
            go_wp2_with (at_builtin; refine wpList_append_own_at _ rfl (.tmp 31) (.tmp 33) 52 rfl w.heap.size 49 i0 (.int .u64 0) 1 8 rfl hi hz0 hz1 hz2 rfl (by decide) _ n (nv l) rfl (O2.out.alloc _) ⟨wr.heap.size, 0, none⟩ 1 1 [.int .u64 (P : Int)] rfl rfl (news_one wr _ _) (by intro u hu; cases hu with | head => rfl | tail _ h => cases h) (by unfold maxLen; omega) (by omega) (by have := L2.out.size; simp; omega) ?_; intro v5 w5 hown5 hg5 _ _; have M5 := hid (Mod.of_grown (S := fun kk => w.heap.size ≤ kk) hg5 (fun kk hk => (own_lt (O2.out.alloc (.cells #[.int .u64 (P : Int)] 49)) kk hk).1)); have O5 := hid hown5; clear hown5 hg5)
            go_roundg (311 - (k + 1))
            case measure => omega
            case rel =>
              refine ⟨k + 1, ?_, rfl, by omega, hid ?_, hid ?_⟩
              · rw [HP.out]; go_num
              · rw [HUP.out, List.length_append, ← HN.out, show nv (l ++ [P]) = nv l ++ [.int .u64 (P : Int)] from List.map_append]
                exact O5.out
              · exact L2.out.trans ((((Mod.refl (fun kk => w.heap.size ≤ kk) wr).alloc _).trans M5.out).below L2.out.size (fun c hc h => by omega))
          · have hup : upto (k + 1) = l := by rw [HNX.out, if_neg hall]
            have HUP := hid hup
            rw [Bool.not_eq_true] at hall
            rw [hall]
            clear hall hup hgi
            go_wp2
            go_roundg (311 - (k + 1))
            case measure => omega
            case rel =>
              refine ⟨k + 1, ?_, rfl, by omega, hid ?_, L2⟩
              · rw [HP.out]; go_num
              · rw [HUP.out, ← HN.out]; exact O2.out
    · have hk4 : k = 310 := by omega
      subst hk4
      rw [upto_all] at O1 ⊢
      rw [show P64.length = 64 from rfl] at O1 ⊢
      clear hg hk3 hk
      go_wp2
      go_ret
      exact ⟨_, rfl, O1.out, L1.out⟩
end Go.Proofs.Ytoegpjfpfhjbkaa
