/- WireOnly: the walk. -/
import Derived.Test.YtpbkdjnogjmfcaaAlive
import Derived.Test.YtpbkdjnogjmfcaaStrmBack
namespace Go.Proofs.Ytpbkdjnogjmfcaa
open Go.RowKit Go.ChangeMaps

theorem below_lay {b : Nat} (W : World) (T : TypeId) (zs : Array Value) (z : Array Value) (hb : b ≤ W.heap.size) : Below b W ((W.alloc (.cells zs T)).setCells W.heap.size 0 z.toList) :=
  (((Below.refl _ W).alloc (Nat.le_refl _) _).trans ((Mod.cells _ W.heap.size 0 _).below (by simp) (fun k hk e => by omega)) : Below W.heap.size W _).mono hb
theorem fn_lay {W : World} {T : TypeId} {zs z : Array Value} {s s' : Strm} {cv cv' : Value} (hz : zs = strmV s cv) (hz' : z = strmV s' cv') : Fn ((W.alloc (.cells zs T)).setCells W.heap.size 0 z.toList) W.heap.size T 69 (sf s' cv') := by
  rw [hz, hz']; exact (Fn.arr W T 69 _).storeAll _
theorem lay_there {W : World} {T : TypeId} {zs : Array Value} {s : Strm} {cv : Value} (hz : zs = strmV s cv) {m : Nat} (hm : m = 69) : (W.alloc (.cells zs T)).there W.heap.size 0 m := by
  rw [hz]; exact there_set (Fn.arr W T 69 _) hm
theorem info25 {zs : Array Value} (h : zs.size = 69) : (Try.prog.info? 25).map (·.size) = some zs.size := by rw [h]; kernel_rfl
theorem info25l {zs : Array Value} (h : zs.size = 69) : (Try.prog.info? 25).map (·.size) = some zs.toList.length := by rw [Array.length_toList, h]; kernel_rfl
theorem info35 {zs : Array Value} (h : zs.size = 69) : (Try.prog.info? 35).map (·.size) = some zs.size := by rw [h]; kernel_rfl
theorem info35l {zs : Array Value} (h : zs.size = 69) : (Try.prog.info? 35).map (·.size) = some zs.toList.length := by rw [Array.length_toList, h]; kernel_rfl
theorem Cs.one {T : TypeId} {G : World → Value → List W8 → Prop} {w : World} {base : Nat} {cv : Value} {ts : List Tr} (h : Cs T G w base cv ts) (s : Strm) : (strmV s cv).all (·.oneCell') = true := by
  obtain ⟨p, c, e, _⟩ := ownsRow_form h.1
  rw [e]; exact strmV_one _ _ rfl
/-- Decode, with its answer apart. -/
theorem decode_l {w : World} {v : Value} {xs : List W8} (hB : Bytes w v xs) (hl : xs.length ≤ 5100) {d : Int × Strm} (hd : d = decS xs) :
    Calls Try.prog 14 #[v] w fun e w' => ∃ cv zs, e = .returned (.tuple #[.agg zs, .int .i64 d.1]) ∧ zs = strmV d.2 cv ∧ zs.size = 69 ∧ zs.all (·.oneCell') = true ∧ CellsAt w' cv d.2.cells ∧ Below w.heap.size w w' := by
  subst hd
  refine (decode_c hB hl).mono ?_
  rintro e w' ⟨cv, ts, rfl, hts, hC, hb⟩
  have hlen := (dec_small xs).2.2.1
  have hl2 : ts.length ≤ 1000 := by
    have : (tcs ts).length = ts.length := by unfold tcs; rw [List.length_map]
    rw [hts] at hlen; omega
  refine ⟨cv, _, rfl, rfl, strmV_size _ _, hC.one _, ?_, hb⟩
  rw [hts]
  exact hC.read (fun v xs h => h.bytes) hl2
set_option maxRecDepth 100000 in
set_option maxHeartbeats 2000000 in
theorem only_walk {w : World} {v : Value} {xs : List W8} (hB : Bytes w v xs) (hm : xs.length ≤ maxLen) :
    Calls Try.prog 6 #[v] w fun e w' => e = .returned (.bool true) ∧ Below w.heap.size w w' := by
  have HB := hid hB
  obtain ⟨p, cap, rfl, _⟩ := hB
  obtain ⟨n, hn⟩ : ∃ n, n = xs.length := ⟨_, rfl⟩
  unfold maxLen at hm
  by_cases h5 : 5000 < xs.length
  · have h5' : (5000 : Int) < (xs.length : Int) := by omega
    clear hn
    go_enter Try.func6, Try.ntmps6
    go_wp2_with (go_at_call 8; ((with_reducible refine (alive_c _).mono ?_); rintro e w1 ⟨rfl, hb1⟩); have B1 := hid hb1; clear hb1)
    go_ret
    exact ⟨rfl, B1.out⟩
  · have h5' : ¬ (5000 : Int) < (xs.length : Int) := by omega
    obtain ⟨zs, hzs⟩ : ∃ zs, zs = strmV Strm.zero (.slice none 0 0) := ⟨_, rfl⟩
    have hz : ∀ W : World, (zeroValue 25).run Try.prog W = .ok (.agg zs) W := by rw [hzs]; exact strm_zero
    have HZ := hid hzs
    obtain ⟨d, hd⟩ : ∃ d, d = decS xs := ⟨_, rfl⟩
    have CD := hid (decode_l HB.out (by omega) hd)
    have HD := hid hd
    have DS := hid (dec_small xs)
    rw [← hd] at DS
    clear hzs hd hn
    go_enter Try.func6, Try.ntmps6
    go_upto_region 4 with (first
      | (go_at_call 14; ((with_reducible refine CD.out.mono ?_); rintro e w2 ⟨cv, z2, rfl, hz2, hs2, ho2, hC2, hb2⟩); have B2 := hid hb2; have HZ2 := hid hz2; have S2 := hid hs2; have O2 := hid ho2; have C2 := hid hC2; clear hz2 hs2 ho2 hC2 hb2)
      | ((with_reducible refine at_op (.store 25 (.tmp 3) (.tmp 14)) rfl ?_); refine wpList_store_mid rfl 25 (.tmp 3) (.tmp 14) rfl w2.heap.size 0 z2 rfl rfl (lay_there HZ.out S2.out) (info25 S2.out) O2.out ?_))
    have F3 := hid (fn_lay (W := w2) (T := 25) HZ.out HZ2.out)
    have L3 := hid (below_lay w2 25 zs z2 (Nat.le_refl _))
    obtain ⟨w3, hw3⟩ : ∃ w3, w3 = (w2.alloc (.cells zs 25)).setCells w2.heap.size 0 z2.toList := ⟨_, rfl⟩
    rw [← hw3] at F3 L3
    rw [← hw3]
    clear hw3
    have B3 := hid (B2.out.trans (L3.out.mono B2.out.size))
    have C3 := hid (C2.out.below L3.out)
    have R3 := hid (fun (W : World) (h : Below w3.heap.size w3 W) => show W.rangeAt w2.heap.size 0 z2.toList from (F3.out.below h F3.out.lt).range' z2 S2.out (fun j hj => by rw [HZ2.out]; exact strmV_get _ _ hj))
    by_cases h0 : d.1 = 0
    · have e0 : (d.1 != 0) = false := by rw [h0]; rfl
      have HE := hid (enc_dec (xs := xs) (by rw [← HD.out]; exact h0))
      rw [← HD.out] at HE
      obtain ⟨hEx, hmay, hbl, hgl⟩ := HE.out
      have CE := hid (encode_c (w := w3) HZ2.out hbl hgl C3.out)
      have HM := hid hmay
      have HX := hid hEx
      have rs := R3.out w3 (Below.refl _ _)
      have hi2 := hid (info25l S2.out)
      clear hEx hmay hbl hgl h0
      go_upto_region 7 with (first
        | ((with_reducible refine at_op (.load 25 (.tmp 3)) rfl ?_); refine wpList_load_mid rfl 25 (.tmp 3) rfl w2.heap.size 0 rfl z2.toList _ rs Try.underlying25 rfl hi2.out ?_)
        | (go_at_call 9; ((with_reducible refine CE.out.mono ?_); rintro e w4 ⟨hE4, hb4⟩); unfold EncAns at hE4; rw [if_pos HM.out] at hE4; obtain ⟨v4, rfl, O4⟩ := hE4; have P4 := hid O4; have B4 := hid hb4; clear O4 hb4))
      have P4' := hid (show Bytes w4 v4 xs from by have := P4.out.bytes; rwa [HX.out] at this)
      have B5 := hid (B3.out.trans (B4.out.mono B3.out.size))
      have HB4 := hid (HB.out.below B5.out)
      obtain ⟨p4, m4, rfl⟩ := P4.out.slice
      have hen : (encS d.2).length = xs.length := by rw [HX.out]
      rw [hen] at P4'
      rw [hen]
      clear hen
      go_wp2_with (go_at_call 8; ((with_reducible refine (alive_c _).mono ?_); rintro e w6 ⟨rfl, hb6⟩); have cv1 := conv_str' (P4'.out.below hb6); have cv2 := conv_str' (HB4.out.below hb6); have B6 := hid hb6; clear hb6)
      go_ret
      exact ⟨rfl, B5.out.trans (B6.out.mono B5.out.size)⟩
    · have e0 : (d.1 != 0) = true := by simpa using h0
      have HS := hid (show d.2 = Strm.zero by rw [HD.out]; exact dec_zero (by rw [← HD.out]; exact h0))
      have hz' : ∀ W : World, (zeroValue 35).run Try.prog W = .ok (.agg zs) W := by rw [HZ.out]; exact (fun W => rfl)
      have CP := hid (fun W (h : Below w3.heap.size w3 W) => plain_c (w := W) HZ2.out (C3.out.below h) (by have := DS.out.2.2.1; omega))
      have CS := hid (fun (W : World) (c5 : Value) => same_c (w := W) (cv := c5) (s := d.2) rfl (show zs = strmV d.2 (.slice none 0 0) from by rw [HS.out]; exact HZ.out) DS.out.1 DS.out.2.1)
      have hi2 := hid (info25l S2.out)
      have hn2 := hid (show d.2.cells = [] by rw [HS.out]; rfl)
      go_wp2_with (first
        | ((with_reducible refine at_op (.load 25 (.tmp 3)) rfl ?_); refine wpList_load_g (by rfl) 25 (.tmp 3) rfl w2.heap.size 0 rfl z2.toList _ (R3.out _ B4.out) Try.underlying25 rfl hi2.out ?_)
        | (go_at_call 8; ((with_reducible refine (alive_c _).mono ?_); rintro e w4 ⟨rfl, hb4⟩); have B4 := hid hb4; clear hb4)
        | (go_at_call 11; ((with_reducible refine (CP.out _ B4.out).mono ?_); rintro e w5 ⟨cv5, rfl, hC5, hb5⟩); have B5 := hid (B4.out.trans (hb5.mono B4.out.size)); have C5 := hid hC5; clear hC5 hb5)
        | (go_at_call 16; ((with_reducible refine (CS.out _ _ C5.out (by rw [hn2.out]; exact cells_nil _)).mono ?_); rintro e w6 ⟨rfl, hb6⟩); have B6 := hid (B5.out.trans (hb6.mono B5.out.size)); clear hb6))
      go_ret
      exact ⟨rfl, B3.out.trans (B6.out.mono B3.out.size)⟩
end Go.Proofs.Ytpbkdjnogjmfcaa
