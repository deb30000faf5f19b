/- The document's TakeBytes and Take. -/
import Derived.Test.YtkehejkjifgieaaNum4
import Derived.Test.YtkehejkjifgieaaNumLaw
import Derived.Test.YtkehejkjifgieaaStr
import Derived.Deep.QuietTactic
import Derived.IntWalk
namespace Go.Proofs.Ytkehejkjifgieaa
open Go.RowKit Go.ChangeMaps

theorem Bytes.take' {w : World} {xs : List W8} {p : Option Addr} {cap : Nat} (h : Bytes w (.slice p xs.length cap) xs) (k : Nat) (hk : k ≤ xs.length) : Bytes w (.slice p k cap) (xs.take k) := by
  cases p with
  | some ad => exact h.take k hk
  | none =>
    rcases bytes_nil_or h with ⟨c, e, e2⟩ | ⟨ad, c, e⟩
    · subst e2
      have : k = 0 := by simpa using hk
      subst this
      exact ⟨none, cap, by simp, fun h0 => by simp at h0⟩
    · cases e
theorem own_add {ad : Addr} {k n c n' c' j : Nat} (h : (Value.slice (some (ad.add k)) n c).ownBlock = some j) : (Value.slice (some ad) n' c').ownBlock = some j := by
  have : (ad.add k).block = ad.block := by simp [Addr.add]; split <;> rfl
  have e : some (ad.add k).block = some j := h
  rw [this] at e; exact e
set_option maxRecDepth 100000 in
set_option maxHeartbeats 1000000 in
theorem rtakeBytes_c {w : World} {v : Value} {xs : List W8} (hX : Bytes w v xs) (hl : xs.length ≤ 100000) (k : Nat) (hk : k ≤ 1000000000) :
    Calls Try.prog 71 #[v, .int .i64 k] w fun e w' => (if k ≤ xs.length then ∃ v1 v2, e = .returned (.tuple #[v1, v2, .int .i64 0]) ∧ Bytes w v1 (xs.take k) ∧ Bytes w v2 (xs.drop k) ∧ (∀ j, v1.ownBlock = some j → v.ownBlock = some j) ∧ ∀ j, v2.ownBlock = some j → v.ownBlock = some j else e = .returned (.tuple #[.slice none 0 0, .slice none 0 0, .int .i64 2])) ∧ Below w.heap.size w w' := by
  by_cases hkx : k ≤ xs.length
  · rcases bytes_nil_or hX with ⟨cap, rfl, rfl⟩ | ⟨ad, cap, rfl⟩
    · have hk0 : k = 0 := by simpa using hkx
      subst hk0
      simp only [List.length_nil, Nat.le_refl, if_true]
      go_enter Try.func71, Try.ntmps71
      go_upto_region 5 with fail
      refine region_wd (by kernel_rfl) (by kernel_rfl) ?_
      repeat (first
        | go_big_quiet_skip
        | (go_big_quiet_want
           go_big_quiet_op
           go_big_quiet_on))
      refine wpQuiet_nil ?_
      rintro _ ⟨nq, rfl⟩
      go_wp2
      go_ret3
      exact ⟨⟨_, _, rfl, ⟨_, _, rfl, fun h => by simp at h⟩, ⟨_, _, rfl, fun h => by simp at h⟩, fun j h => h, fun j h => h⟩, nq.h⟩
    · simp only [hkx, if_true]
      have Ba := hid (hX.take k hkx)
      have hcap := hX.len_le
      obtain ⟨n, hn⟩ : ∃ n, n = xs.length := ⟨_, rfl⟩
      have hkcap : k ≤ cap := by
        by_cases h : 0 < n
        · have := (hcap (by omega)).2; omega
        · omega
      have key : (cap = k ∧ Hid (Bytes w (.slice (some ad) (n - k) 0) (xs.drop k))) ∨ (cap ≠ k ∧ Hid (Bytes w (.slice (some (ad.add k)) (n - k) (cap - k)) (xs.drop k))) := by
        have := hX.drop k hkx
        unfold cutAt at this
        rw [← hn] at this
        by_cases hck : cap = k
        · refine Or.inl ⟨hck, hid ?_⟩
          rw [if_pos hck, show cap - k = 0 by omega] at this
          exact this
        · refine Or.inr ⟨hck, hid ?_⟩
          rw [if_neg hck] at this
          exact this
      rw [← hn] at hkx ⊢
      clear hX hn hcap
      have hkn : (k : Int) ≤ (n : Int) := by omega
      have hkci : (k : Int) ≤ (cap : Int) := by omega
      have hkni : ¬ (n : Int) < (k : Int) := by omega
      rcases key with ⟨rfl, Bb⟩ | ⟨hck, Bb⟩
      all_goals
        go_enter Try.func71, Try.ntmps71
        go_upto_region 5 with fail
        refine region_wd (by kernel_rfl) (by kernel_rfl) ?_
        repeat (first
          | go_big_quiet_skip
          | (go_big_quiet_want
             go_big_quiet_op
             go_big_quiet_on))
        refine wpQuiet_nil ?_
        rintro _ ⟨nq, rfl⟩
        go_wp2
        go_ret3
        refine ⟨⟨_, _, rfl, Ba.out, ?_, fun j h => h, fun j h => by first | exact h | exact own_add (k := k) (n := n - k) (c := cap - k) h⟩, nq.h⟩
        first
          | exact Bb.out
          | (have := Bb.out; simpa using this)
  · obtain ⟨px, cx, rfl, _⟩ := hX
    simp only [hkx, if_false]
    obtain ⟨n, hn⟩ : ∃ n, n = xs.length := ⟨_, rfl⟩
    rw [← hn] at hkx ⊢
    clear hn
    have hki : (n : Int) < (k : Int) := by omega
    go_enter Try.func71, Try.ntmps71
    go_wp2
    go_ret3
    exact ⟨rfl, Below.refl _ _⟩
def RTakeAns (w : World) (v : Value) (xs : List W8) (e : Ending) : Prop :=
  if (takeN xs).1 = 0 then ∃ v2, e = .returned (.tuple #[.int .u64 (takeN xs).2.1, v2, .int .i64 0]) ∧ Bytes w v2 (xs.drop (takeN xs).2.2) ∧ (∀ j, v2.ownBlock = some j → v.ownBlock = some j) else e = .returned (.tuple #[.int .u64 0, .slice none 0 0, .int .i64 (takeN xs).1])
theorem rtakeAns_no {w : World} {v : Value} {xs : List W8} {c : Int} (h : takeN xs = (c, 0, 0)) (hc : c ≠ 0) : RTakeAns w v xs (.returned (.tuple #[.int .u64 0, .slice none 0 0, .int .i64 c])) := by
  unfold RTakeAns
  rw [h, if_neg hc]
theorem rtakeAns_yes {w : World} {v0 : Value} {xs : List W8} {n k : Nat} {v : Value} (h : takeN xs = (0, n, k)) (hO : Bytes w v (xs.drop k)) (ho : ∀ j, v.ownBlock = some j → v0.ownBlock = some j) : RTakeAns w v0 xs (.returned (.tuple #[.int .u64 n, v, .int .i64 0])) := by
  unfold RTakeAns
  rw [h, if_pos rfl]
  exact ⟨v, rfl, hO, ho⟩
def rtakePhi (w0 : World) (b off n k cap : Nat) (xs : List W8) (q : Bool) (kq : Nat) (v : Value) (w : World) : Prop :=
  match kq with
  | 0 => v = .int .u64 (val xs (k + 1) : Int)
  | 1 => Ow w w0.heap.size v (leb (val xs (k + 1)))
  | 2 => v = .string (str (leb (val xs (k + 1))))
  | 3 => v = .slice (some ⟨b, off, none⟩) n cap
  | 4 => v = .int .i64 (k : Int)
  | 5 => v = .int .i64 ((k : Int) + 1)
  | 6 => v = .slice (some ⟨b, off, none⟩) (k + 1) cap
  | 7 => v = .string (str (xs.take (k + 1)))
  | _ => v = .bool q
theorem rtakePhi_mono {w0 : World} {b off n k cap : Nat} {xs : List W8} {q : Bool} : ∀ (j : Nat) (v : Value) (w w' : World), rtakePhi w0 b off n k cap xs q j v w → Below w.heap.size w w' → rtakePhi w0 b off n k cap xs q j v w' := by
  intro j v w w' h hb
  match j, h with
  | 1, h => exact Ow.below h hb
  | 0, h | 2, h | 3, h | 4, h | 5, h | 6, h | 7, h => exact h
  | j + 8, h => exact h
set_option maxRecDepth 100000 in
set_option maxHeartbeats 4000000 in
theorem rtake_c {w0 : World} {v : Value} {xs : List W8} (hX : Bytes w0 v xs) (hl : xs.length ≤ 100000) :
    Calls Try.prog 72 #[v] w0 fun e w' => RTakeAns w0 v xs e ∧ Below w0.heap.size w0 w' := by
  have HX := hid hX
  obtain ⟨p, cap, rfl, _⟩ := hX
  obtain ⟨n, hn⟩ : ∃ n, n = xs.length := ⟨_, rfl⟩
  have hn' := hid hn
  have hT := hid (show takeN xs = takeGo xs (min n 10 - 0) 0 by rw [hn]; rfl)
  rw [← hn] at HX hl ⊢
  clear hn
  go_enter Try.func72, Try.ntmps72
  go_wp2
  go_loopg [5, 6] 10 (fun g v5 v6 wr => ∃ k : Nat, v6 = .int .i64 k ∧ v5 = .int .u64 (val xs k) ∧ g = 10 - k ∧ k ≤ min n 10 ∧ Hid (takeN xs = takeGo xs (min n 10 - k) k) ∧ Hid (∀ i, i < k → 128 ≤ (xs.getD i 0).toNat) ∧ w0 = wr)
  case atStart => exact ⟨0, rfl, rfl, by omega, by omega, hT, hid (fun i hi => absurd hi (by omega)), rfl⟩
  case round =>
    obtain ⟨k, rfl, rfl, hg, hk, HT, HA, rfl⟩ := hrel
    by_cases hkm : k < min n 10
    · have hkn : k < n := by omega
      have hk10 : k < 10 := by omega
      obtain ⟨b, off, e, hb, hlc, hcm, hsrc⟩ : ∃ b off, p = some ⟨b, off, none⟩ ∧ b < w0.heap.size ∧ xs.length ≤ cap ∧ cap ≤ maxLen ∧ Src w0 b off xs := by
        obtain ⟨p', c', e', hq⟩ := HX.out
        cases e'
        exact hq (by have := hn'.out; omega)
      cases e
      have c0 := hsrc k (by have := hn'.out; omega)
      obtain ⟨c, hc⟩ : ∃ c, c = xs.getD k 0 := ⟨_, rfl⟩
      rw [← hc] at c0
      have HC := hid hc
      clear hsrc hc
      have hkni : (k : Int) < (n : Int) := by omega
      have hk10i : (k : Int) < 10 := by omega
      have hub : ub c = (c.toNat : Int) := rfl
      rw [hub] at c0
      have hgo : Hid _ := hid (show takeGo xs (min n 10 - k) k = if c.toNat < 128 then (if k = 0 ∨ (c.toNat ≠ 0 ∧ (k < 9 ∨ c.toNat = 1)) then (0, val xs (k + 1), k + 1) else (3, 0, 0)) else takeGo xs (min n 10 - (k + 1)) (k + 1) from by
        rw [show min n 10 - k = (min n 10 - (k + 1)) + 1 by omega, HC.out]; rfl)
      have hsum : IntKind.u64.wrap ((val xs k : Int) + IntKind.u64.wrap ((c.toNat : Int) % 128 * 2 ^ (7 * k))) = (val xs (k + 1) : Int) := by
        have : val xs (k + 1) = (val xs k + c.toNat % 128 * 2 ^ (7 * k)) % 18446744073709551616 := by rw [HC.out]; rfl
        rw [this]
        simp [IntKind.wrap, IntKind.bits, IntKind.signed]
      have hkci : (k : Int) + 1 ≤ (cap : Int) := by have := hn'.out; omega
      have hsh : IntKind.i64.wrap (7 * (k : Int)) = 7 * (k : Int) := IntWalk.i64_in _ (by omega)
      have hx256 : c.toNat < 256 := c.isLt
      have HC8 := hid (show c.toNat < 128 → (leb (val xs (k + 1)) = xs.take (k + 1) ↔ (k = 0 ∨ (c.toNat ≠ 0 ∧ (k < 9 ∨ c.toNat = 1)))) from fun h => by
        have := leb_take (xs := xs) (k := k) (by have := hn'.out; omega) hk10 HA.out (by rw [← HC.out]; exact h)
        rwa [← HC.out] at this)
      have HA' := hid (show 128 ≤ c.toNat → ∀ i, i < k + 1 → 128 ≤ (xs.getD i 0).toNat from fun h i hi => by
        by_cases e : i = k
        · subst e; rw [← HC.out]; exact h
        · exact HA.out i (by omega))
      clear HA
      obtain ⟨x, hx⟩ : ∃ x, x = c.toNat := ⟨_, rfl⟩
      rw [← hx] at c0 hgo hsum hx256 HC8 HA'
      clear hub HC hx
      by_cases hx8 : x < 128
      · have hx8i : (x : Int) < 128 := by omega
        have hiff := HC8.out hx8
        rw [if_pos hx8] at hgo
        have hv64 := hid (val_lt xs (k + 1))
        have IHp := hid (fun (W : World) => (rput_c (w := W) (v := .slice none 0 0) (xs := []) ⟨none, 0, rfl, fun h => absurd h (Nat.lt_irrefl 0)⟩ (Nat.zero_le _) (val xs (k + 1)) hv64.out : Calls Try.prog 63 _ W _))
        have Bk := hid (HX.out.take (k + 1) (by have := hn'.out; omega))
        have Bd := hid (hn'.out ▸ HX.out.drop (k + 1) (by have := hn'.out; omega) : Bytes w0 (.slice (some (cutAt ⟨b, off, none⟩ cap (k + 1))) (n - (k + 1)) (cap - (k + 1))) (xs.drop (k + 1)))
        have hw1 : IntKind.i64.wrap ((k : Int) + 1) = (k : Int) + 1 := IntWalk.i64_in _ (by omega)
        have hk0 : ¬ (k : Int) + 1 < 0 := by omega
        have hkn1 : (k : Int) + 1 ≤ (n : Int) := by omega
        have hrefl : ∀ w : World, Below w.heap.size w w := fun w => Below.refl _ _
        obtain ⟨q, hqf⟩ : ∃ q, q = !decide (k = 0 ∨ (x ≠ 0 ∧ (k < 9 ∨ x = 1))) := ⟨_, rfl⟩
        have hq : ((str (leb (val xs (k + 1)))).toList == (str (xs.take (k + 1))).toList) = !q := by rw [str_beq, hqf, Bool.not_not]; exact decide_eq_decide.2 hiff
        have HQ := hid hqf
        clear HC8 HA' hiff hqf
        go_upto_region 7 with fail
        refine region_rel (n := 51) (B := fun w' => Below w0.heap.size w0 w') (E := fun w w' => Below w.heap.size w w') (φ := rtakePhi w0 b off n k cap xs q) (by kernel_rfl) (by kernel_rfl) (by kernel_rfl) (by kernel_rfl) rtakePhi_mono hrefl ((Below.refl _ _).drew) ?hop ?hend
        case hop =>
          refine And.intro ?_ ?_
          · intro V ρ w hB hc hf hd hs
            have s5 : ρ (.tmp 5) = .int .u64 (val xs (k + 1) : Int) := hs 5 (by kernel_rfl)
            clear hd hs
            rw [BigFrame.run_move (.tmp 5) rfl]
            exact ⟨s5, hB, hrefl w⟩
          refine And.intro ?_ ?_
          · intro V ρ w hB hc hf hd hs
            have s34 : ρ (.tmp 34) = .int .u64 (val xs (k + 1) : Int) := (hd 0 (by kernel_rfl) 34 (by kernel_rfl)).2.trans (hd 0 (by kernel_rfl) 34 (by kernel_rfl)).1
            clear hd hs
            refine outcome_enter (w := w) (f := 63) (args := #[.slice none 0 0, .int .u64 (val xs (k + 1) : Int)]) (by simp [go_sem, hc, hf, s34]) ?_
            refine (IHp.out w).mono ?_
            rintro e w2 ⟨v2, rfl, hO, hL⟩
            exact ⟨v2, rfl, hO.lower hB.size, hB.trans (hL.mono hB.size), hL⟩
          refine And.intro ?_ ?_
          · intro V ρ w hB hc hf hd hs
            obtain ⟨f35, s35⟩ := hd 1 (by kernel_rfl) 35 (by kernel_rfl)
            clear hd hs
            exact outcome_value (run_conv rfl s35 (conv_str' f35.bytes)) ⟨rfl, hB, hrefl w⟩
          refine And.intro ?_ ?_
          · intro V ρ w hB hc hf hd hs
            have s0 : ρ (.tmp 0) = .slice (some ⟨b, off, none⟩) n cap := hs 0 (by kernel_rfl)
            clear hd hs
            rw [BigFrame.run_move (.tmp 0) rfl]
            exact ⟨s0, hB, hrefl w⟩
          refine And.intro ?_ ?_
          · intro V ρ w hB hc hf hd hs
            have s6 : ρ (.tmp 6) = .int .i64 (k : Int) := hs 6 (by kernel_rfl)
            clear hd hs
            rw [BigFrame.run_move (.tmp 6) rfl]
            exact ⟨s6, hB, hrefl w⟩
          refine And.intro ?_ ?_
          · intro V ρ w hB hc hf hd hs
            have s38 : ρ (.tmp 38) = .int .i64 (k : Int) := (hd 4 (by kernel_rfl) 38 (by kernel_rfl)).2.trans (hd 4 (by kernel_rfl) 38 (by kernel_rfl)).1
            clear hd hs
            exact outcome_value (v := .int .i64 ((k : Int) + 1)) (by simp [go_sem, hc, s38, hw1]) ⟨rfl, hB, hrefl w⟩
          refine And.intro ?_ ?_
          · intro V ρ w hB hc hf hd hs
            have s37 : ρ (.tmp 37) = .slice (some ⟨b, off, none⟩) n cap := (hd 3 (by kernel_rfl) 37 (by kernel_rfl)).2.trans (hd 3 (by kernel_rfl) 37 (by kernel_rfl)).1
            have s39 : ρ (.tmp 39) = .int .i64 ((k : Int) + 1) := (hd 5 (by kernel_rfl) 39 (by kernel_rfl)).2.trans (hd 5 (by kernel_rfl) 39 (by kernel_rfl)).1
            clear hd hs
            exact outcome_value (v := .slice (some ⟨b, off, none⟩) (k + 1) cap) (by simp [go_sem, sliced, s37, s39, hkci, hk0]) ⟨rfl, hB, hrefl w⟩
          refine And.intro ?_ ?_
          · intro V ρ w hB hc hf hd hs
            have s40 : ρ (.tmp 40) = .slice (some ⟨b, off, none⟩) (k + 1) cap := (hd 6 (by kernel_rfl) 40 (by kernel_rfl)).2.trans (hd 6 (by kernel_rfl) 40 (by kernel_rfl)).1
            clear hd hs
            exact outcome_value (run_conv rfl s40 (conv_str (Bk.out.below hB))) ⟨rfl, hB, hrefl w⟩
          refine And.intro ?_ ?_
          · intro V ρ w hB hc hf hd hs
            have s36 : ρ (.tmp 36) = .string (str (leb (val xs (k + 1)))) := (hd 2 (by kernel_rfl) 36 (by kernel_rfl)).2.trans (hd 2 (by kernel_rfl) 36 (by kernel_rfl)).1
            have s41 : ρ (.tmp 41) = .string (str (xs.take (k + 1))) := (hd 7 (by kernel_rfl) 41 (by kernel_rfl)).2.trans (hd 7 (by kernel_rfl) 41 (by kernel_rfl)).1
            clear hd hs
            exact outcome_value (v := .bool q) (by simp [go_sem, s36, s41, hq]) ⟨rfl, hB, hrefl w⟩
          exact trivial
        case hend =>
          intro V w5 hB5 hV
          have v8 : V 8 = .bool q := hV 8 (by decide)
          have HB := hid hB5
          simp only [lexF, Act.put, List.setIfInBounds_toArray, List.set_cons_zero, List.set_cons_succ, v8]
          clear hV v8 hB5 hq
          by_cases hP : k = 0 ∨ (x ≠ 0 ∧ (k < 9 ∨ x = 1))
          · rw [if_pos hP] at hgo
            have hgo' := hid (HT.out.trans hgo.out)
            have hq0 := HQ.out
            rw [decide_eq_true hP] at hq0
            subst hq0
            simp only [Bool.not_true]
            have key : (cap = k + 1 ∧ Hid (Bytes w0 (.slice (some ⟨b, off, none⟩) (n - (k + 1)) 0) (xs.drop (k + 1)))) ∨ (cap ≠ k + 1 ∧ Hid (Bytes w0 (.slice (some ⟨b, off + (k + 1), none⟩) (n - (k + 1)) (cap - (k + 1))) (xs.drop (k + 1)))) := by
              have := Bd.out
              unfold cutAt at this
              by_cases hck : cap = k + 1
              · refine Or.inl ⟨hck, hid ?_⟩
                rw [if_pos hck, show cap - (k + 1) = 0 by omega] at this
                exact this
              · refine Or.inr ⟨hck, hid ?_⟩
                rw [if_neg hck, Addr.add_mid] at this
                exact this
            clear HQ HT hgo hP
            rcases key with ⟨hck, Bb⟩ | ⟨hck, Bb⟩
            all_goals
              go_upto_region 9 with fail
              refine region_wd (by kernel_rfl) (by kernel_rfl) ?_
              repeat (first
                | go_big_quiet_skip
                | (go_big_quiet_want
                   go_big_quiet_op
                   go_big_quiet_on))
              refine wpQuiet_nil ?_
              rintro _ ⟨nq, rfl⟩
              go_wp2
              go_ret3
              refine ⟨rtakeAns_yes hgo'.out ?_ (fun j h => h), HB.out.trans (nq.h.mono HB.out.size)⟩
              first
                | exact Bb.out
                | (have := Bb.out; simpa [hck] using this)
          · rw [if_neg hP] at hgo
            have hgo' := hid (HT.out.trans hgo.out)
            have hq0 := HQ.out
            rw [decide_eq_false hP] at hq0
            subst hq0
            simp only [Bool.not_false]
            clear HQ HT hgo hP
            go_wp2
            go_ret3
            exact ⟨rtakeAns_no hgo'.out (by decide), HB.out⟩
      · have hx8i : ¬ (x : Int) < 128 := by omega
        rw [if_neg hx8] at hgo
        have HT' := hid (HT.out.trans hgo.out)
        have HA2 := hid (HA'.out (by omega))
        clear HA' HC8 HT hgo
        go_wp2
        go_roundg (10 - (k + 1))
        case measure => omega
        case rel => exact ⟨k + 1, by go_num, rfl, rfl, by omega, HT', HA2, rfl⟩
    · have hgo' := hid (show takeN xs = (if 10 ≤ xs.length then 3 else 2, 0, 0) from by rw [HT.out, show min n 10 - k = 0 by omega]; rfl)
      rw [← hn'.out] at hgo'
      clear HT HA hT
      by_cases h10 : 10 ≤ n
      · rw [if_pos h10] at hgo'
        have h10i : (10 : Int) ≤ (n : Int) := by omega
        have hk10 : k = 10 := by omega
        subst hk10
        by_cases hn10 : 10 < n
        · have hni : (10 : Int) < (n : Int) := by omega
          go_wp2
          go_ret3
          exact ⟨rtakeAns_no hgo'.out (by decide), Below.refl _ _⟩
        · have hni : ¬ (10 : Int) < (n : Int) := by omega
          go_wp2
          go_ret3
          exact ⟨rtakeAns_no hgo'.out (by decide), Below.refl _ _⟩
      · rw [if_neg h10] at hgo'
        have h10i : ¬ (10 : Int) ≤ (n : Int) := by omega
        have hkn' : k = n := by omega
        subst hkn'
        go_wp2
        go_ret3
        exact ⟨rtakeAns_no hgo'.out (by decide), Below.refl _ _⟩
end Go.Proofs.Ytkehejkjifgieaa

