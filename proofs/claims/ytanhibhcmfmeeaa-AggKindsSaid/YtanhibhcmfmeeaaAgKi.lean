import Derived.Test.YtanhibhcmfmeeaaAgSum
import Derived.Test.YtanhibhcmfmeeaaAgWin
import Derived.Test.YtanhibhcmfmeeaaAgSes
/- A window's sum begins anew with each window, a session's with each session. -/
namespace Go.Proofs.Ytanhibhcmfmeeaa.Ag
open Go.RowKit Go.Proofs.YtanhibhcmfmeeaaW.PrintWords Go.Proofs.YtanhibhcmfmeeaaW.PrintMore Go.Proofs.Ytanhibhcmfmeeaa.Cut Go.Proofs.Ytanhibhcmfmeeaa.Fr Go.Proofs.Ytanhibhcmfmeeaa.SlK Go.Proofs.Ytanhibhcmfmeeaa.Ex
open Go.Proofs.Ytanhibhcmfmeeaa.Win (St P2 startF)
open Go.Proofs.Ytanhibhcmfmeeaa.Se (L4 S4)
theorem wrap_0 {x : Int} (h : -9223372036854775808 ≤ x ∧ x ≤ 9223372036854775807) : wrap64 (0 + x) = x := by unfold wrap64; omega
/-- What the second record meets in the windows. -/
theorem win_two {g key x a b : Int} (hg : 1 ≤ g) (ha : 0 ≤ a ∧ a ≤ 1099511627776) (hb : 0 ≤ b ∧ b ≤ 1099511627776) : (Win.look (Win.put (startF g a, key) x []) (startF g b, key)).getD 0 = if a / g = b / g then x else 0 := by
  rw [Win.look_put _ _ _ (List.Pairwise.nil)]
  have h1 := (start_facts (n := g) hg ha.1 ha.2).1
  have h2 := (start_facts (n := g) hg hb.1 hb.2).1
  by_cases h : a / g = b / g
  · rw [if_pos h, if_pos (by rw [h1, h2, h])]; rfl
  · rw [if_neg h, if_neg]
    · rfl
    · intro e
      have e1 : startF g a = startF g b := congrArg Prod.fst e
      rw [h1, h2] at e1
      exact h (Int.eq_of_mul_eq_mul_left (show g ≠ 0 by omega) e1)
theorem put_one (g key a x : Int) : Se.putL g key a x [] = [⟨key, a, a, x⟩] := rfl
theorem touch_one (g key a b x : Int) : Se.touchB g key b ⟨key, a, a, x⟩ = decide (a - g ≤ b ∧ b ≤ a + g) := by
  unfold Se.touchB
  simp
theorem hits_one (g key a b x : Int) : Se.hits g key b [⟨key, a, a, x⟩] = if a - g ≤ b ∧ b ≤ a + g then [⟨key, a, a, x⟩] else [] := by
  unfold Se.hits
  by_cases h : a - g ≤ b ∧ b ≤ a + g
  · rw [if_pos h, List.filter_cons_of_pos (by rw [touch_one]; exact decide_eq_true h)]; rfl
  · rw [if_neg h, List.filter_cons_of_neg (by rw [touch_one]; simpa using h)]; rfl
theorem gath_two {g key a b x : Int} (hx : -9223372036854775808 ≤ x ∧ x ≤ 9223372036854775807) : gathS g key b [⟨key, a, a, x⟩] = if a - g ≤ b ∧ b ≤ a + g then x else 0 := by
  unfold gathS
  rw [hits_one]
  by_cases h : a - g ≤ b ∧ b ≤ a + g
  · rw [if_pos h, if_pos h]; exact wrap_0 hx
  · rw [if_neg h, if_neg h]; rfl
theorem first_two (g key a b x : Int) : Se.firstF g key b [⟨key, a, a, x⟩] = if a - g ≤ b ∧ b ≤ a + g then min b a else b := by
  unfold Se.firstF
  rw [hits_one]
  by_cases h : a - g ≤ b ∧ b ≤ a + g
  · rw [if_pos h, if_pos h]; rfl
  · rw [if_neg h, if_neg h]; rfl
abbrev recRow (key val time : Int) : Obj := .cells #[.int .i64 key, .int .i64 val, .int .i64 time] 36
set_option maxRecDepth 100000 in
set_option maxHeartbeats 16000000 in
theorem kinds_walk (n : Int) (hn0 : 0 ≤ n) (hn1 : n ≤ 255) (key : Int) (hk : Win.W64 key) (a : Int) (ha0 : 0 ≤ a) (ha1 : a ≤ 65535) (b : Int) (hb0 : 0 ≤ b) (hb1 : b ≤ 65535) (x y : Int) (hx : Win.W64 x) (hy : Win.W64 y)
    (hx2 : -9223372036854775808 ≤ x ∧ x ≤ 9223372036854775807) (hy2 : -9223372036854775808 ≤ y ∧ y ≤ 9223372036854775807) (w : World) :
    Calls Try.prog 4 #[.int .u8 n, .int .i64 key, .int .u16 a, .int .u16 b, .int .i64 x, .int .i64 y] w fun e w' => e = .returned (.bool true) ∧ Below w.heap.size w w' := by
  have hsh := shown_calls w
  have hma : mayT a = true := decide_eq_true ⟨ha0, by omega⟩
  have hmb : mayT b = true := decide_eq_true ⟨hb0, by omega⟩
  have HK := Lib.hid (And.intro hk (And.intro hx (And.intro hy (And.intro hx2 (And.intro hy2 (And.intro hma hmb))))))
  have t1 : IntKind.i64.wrap a = a := by rw [IntKind.wrap_i64]; omega
  have t2 : IntKind.i64.wrap b = b := by rw [IntKind.wrap_i64]; omega
  have t3 : IntKind.i64.wrap n = n := by rw [IntKind.wrap_i64]; omega
  have t4 : IntKind.i64.wrap (1 + n) = 1 + n := by rw [IntKind.wrap_i64]; omega
  clear hk hx hy hx2 hy2 hma hmb
  go_enter Try.func4, Try.ntmps4
  go_wp2_with fail
  refine hsh.mono ?_
  rintro e w1 ⟨rfl, hB1⟩
  have hu := usual_calls 1 n (by decide) ⟨hn0, hn1⟩ w1
  have HB1 := Lib.hid hB1
  clear hsh hB1
  go_wp2_with fail
  refine hu.mono ?_
  rintro e w2 ⟨v, rfl, hv, hB2⟩
  have e7 : kindU 1 = 7 := by decide
  rw [e7] at hv
  have hnew := new_win hv (by omega) sum_may
  obtain ⟨fA, fn, fc, kA, kc, rfl, _⟩ := hv.out
  have HB2 := Lib.hid (below_then HB1.out HB1.out.size hB2)
  clear hu hv hB2 HB1 e7
  go_wp2_with fail
  refine hnew.mono ?_
  rintro e w3 ⟨a1, s1, b1, rfl, hA, _, _⟩
  have hu2 := usual_b 2 n (by decide) ⟨hn0, hn1⟩ w3
  have e8 : kindU 2 = 8 := by decide
  unfold UsualB at hu2
  rw [e8] at hu2
  have HA3 := Lib.hid hA
  clear hnew hA e8
  go_wp2_with fail
  refine hu2.mono ?_
  rintro e w4 ⟨q, rfl, hq, hqs, hB4⟩
  have hv4 : VxV w4 8 (1 + n) sumE (.agg #[.int .i64 8, .slice none 0 0, .int .i64 6, .int .i64 0, .slice (some ⟨q, 0, none⟩) 2 2, .int .i64 (1 + n)]) := ⟨none, 0, 0, some ⟨q, 0, none⟩, 2, rfl, sumV hq⟩
  have hnew2 := new_se hv4 (by omega) sum_may
  have H4 := Lib.hid (And.intro hq (And.intro hqs hB4))
  clear hu2 hq hqs hB4 hv4
  go_wp2_with fail
  refine hnew2.mono ?_
  rintro e w5 ⟨a2, s2, rfl, hV5, hO5, hsa, ha4, hB5, fA', fn', fc', kA', kc', hveq, hr5⟩
  simp only [Value.agg.injEq, Array.mk.injEq, List.cons.injEq, Value.slice.injEq, and_true, true_and] at hveq
  obtain ⟨⟨rfl, rfl, rfl⟩, -, -, rfl, -, rfl⟩ := hveq
  have hA5 := (HA3.out.below H4.out.2.2).below hB5
  have hq5 := (hB5.block q (Array.getElem?_eq_some_iff.1 H4.out.1).1).trans H4.out.1
  have hlq : q < w4.heap.size := (Array.getElem?_eq_some_iff.1 H4.out.1).1
  have hfw : ∀ k, Fw s1 b1 k → w2.heap.size ≤ k ∧ k < w3.heap.size := fun k hk => by
    rcases hk with rfl | rfl
    · exact ⟨HA3.out.bs, HA3.out.tb.lt.1⟩
    · exact ⟨HA3.out.bb, HA3.out.tb.lt.2.1⟩
  have hd2 : ¬ Fw s1 b1 a2 := fun e => by have h1 := (hfw _ e).2; have h2 := H4.out.2.2.size; omega
  have hdq : ¬ Fw s1 b1 q := fun e => by have h1 := (hfw _ e).2; have h2 := H4.out.2.1; omega
  have ha1 := apply_win hA5 key x a x HK.out.1 HK.out.2.1 HK.out.2.2.2.2.2.1 (by rw [sum_eval]; show (wrap64 (0 + x), (0 : Int)) = _; rw [wrap_0 HK.out.2.2.2.1]) (fun _ => by decide)
  unfold recV at ha1
  have HFW := Lib.hid hfw; have HD := Lib.hid (And.intro hd2 hdq); have HLQ := Lib.hid (And.intro hlq ha4)
  have H5 := Lib.hid (And.intro hr5 (And.intro hq5 (And.intro hO5 hB5)))
  clear hnew2 hV5 hO5 hsa ha4 hB5 hr5 hA5 hq5 hlq hfw hd2 hdq
  go_wp2_with fail
  refine ha1.mono ?_
  rintro e w6 ⟨sl, rfl, _, hA6, hM6⟩
  have hr6 := (hM6.keep a2 (Array.getElem?_eq_some_iff.1 H5.out.1).1 HD.out.1).trans H5.out.1
  have hq6 := (hM6.keep q (Array.getElem?_eq_some_iff.1 H5.out.2.1).1 HD.out.2).trans H5.out.2.1
  have hO6 := H5.out.2.2.1.mv hM6 (fun k hk e => by have h1 := (H5.out.2.2.1.lt k hk).1; have h2 := (HFW.out k e).2; have h3 := H4.out.2.2.size; omega)
  have hS6 := AgS.usual hr6 hq6 hO6 HLQ.out.1 (Nat.lt_of_lt_of_le HLQ.out.1 HLQ.out.2)
  have ha2 := apply_se hS6 key x a x HK.out.2.2.2.2.2.1 (by rw [sum_eval]; show (wrap64 (0 + x), (0 : Int)) = _; rw [wrap_0 HK.out.2.2.2.1]) (fun _ => by decide)
  unfold recV at ha2
  have H6 := Lib.hid (And.intro hr6 (And.intro hq6 (And.intro hO6 (And.intro hS6 (And.intro hA6 hM6)))))
  clear ha1 hA6 hM6 hr6 hq6 hO6 hS6
  go_wp2_with fail
  refine ha2.mono ?_
  rintro e w7 ⟨sl2, v7, rfl, _, hS7, hM7⟩
  rw [put_one] at hS7
  have hr7 := (hM7.keep a2 (Array.getElem?_eq_some_iff.1 H6.out.1).1 H6.out.2.2.2.1.ne).trans H6.out.1
  have hq7 := (hM7.keep q (Array.getElem?_eq_some_iff.1 H6.out.2.1).1 (H6.out.2.2.2.1.far H6.out.2.1 (by decide) (by decide))).trans H6.out.2.1
  have hge7 : ∀ k, Se.F s2 (.slice none 0 0) k → w4.heap.size ≤ k := fun k hk => (H6.out.2.2.1.lt k hk).1
  have h43 := H4.out.2.2.size
  have hlow3 := HA3.out.vx.low.size
  have hA7 : AgW w2 w7 a1 s1 b1 (1 + n) sumE (Win.put (startF (1 + n) a, key) x []) := ⟨H6.out.2.2.2.2.1.vx.mv hM7 (fun k hk => by have := hge7 k hk; omega) (fun e => by have h1 := hge7 _ e; have h2 := HA3.out.vx.lt; omega),
    win_mv H6.out.2.2.2.2.1.tb hM7 (fun e => by have h1 := hge7 _ e; have h2 := (HFW.out _ (.inl rfl)).2; omega) (fun e => by have h1 := hge7 _ e; have h2 := (HFW.out _ (.inr rfl)).2; omega), HA3.out.bs, HA3.out.bb⟩
  obtain ⟨rr, hrr⟩ : ∃ rr, rr = wrap64 ((if a / (1 + n) = b / (1 + n) then x else 0) + y) := ⟨_, rfl⟩
  have hw3 := apply_win hA7 key y b rr HK.out.1 (by rw [hrr]; exact WalkArith.wf_i64 (by unfold wrap64; omega)) HK.out.2.2.2.2.2.2 (by rw [sum_eval]; show (wrap64 ((Win.look (Win.put (startF (1 + n) a, key) x []) (startF (1 + n) b, key)).getD 0 + y), (0 : Int)) = _; rw [win_two (by omega) ⟨ha0, by omega⟩ ⟨hb0, by omega⟩, hrr]) (fun _ => by
    have := Win.put_len (startF (1 + n) a, key) x (m := []) List.Pairwise.nil
    split at this <;> simp only [List.length_nil] at this <;> omega)
  unfold recV at hw3
  have H7 := Lib.hid (And.intro hr7 (And.intro hq7 (And.intro hS7 (And.intro hM7 (And.intro hA7 hrr)))))
  have HGE := Lib.hid hge7
  clear ha2 hS7 hM7 hr7 hq7 hge7 hA7 hrr h43 hlow3
  go_wp2_with fail
  refine hw3.mono ?_
  rintro e w8 ⟨sl3, rfl, _, hA8, hM8⟩
  have hf7 : ∀ k, Se.F s2 v7 k → w4.heap.size ≤ k := fun k hk => by
    rcases H7.out.2.2.2.1.new k hk with h | h
    · exact HGE.out k h
    · have h1 := (H6.out.2.2.2.2.2.size); have h2 := H5.out.2.2.2.size; omega
  have hr8 := (hM8.keep a2 (Array.getElem?_eq_some_iff.1 H7.out.1).1 HD.out.1).trans H7.out.1
  have hq8 := (hM8.keep q (Array.getElem?_eq_some_iff.1 H7.out.2.1).1 HD.out.2).trans H7.out.2.1
  have hO8 := H7.out.2.2.1.tb.mv hM8 (fun k hk e => by have h1 := hf7 k hk; have h2 := (HFW.out k e).2; have h3 := H4.out.2.2.size; omega)
  rw [trunc_size _ (by have := (Array.getElem?_eq_some_iff.1 H6.out.2.1).1; omega)] at hO8
  obtain ⟨W8, hW8⟩ : ∃ W, W = w8.alloc (recRow key rr (startF (1 + n) b)) := ⟨_, rfl⟩
  have hb8 : Below w8.heap.size w8 W8 := by rw [hW8]; exact below_alloc (Below.refl _ _) _
  have hp8 : W8.heap[w8.heap.size]? = some (recRow key rr (startF (1 + n) b)) := by rw [hW8]; exact (Go.MapKept.heap_alloc w8 _).1
  have hS8 := (AgS.usual hr8 hq8 hO8 (Nat.lt_succ_self q) (Nat.lt_of_lt_of_le HLQ.out.1 HLQ.out.2)).below hb8
  obtain ⟨rs, hrs⟩ : ∃ rs, rs = wrap64 ((if a - (1 + n) ≤ b ∧ b ≤ a + (1 + n) then x else 0) + y) := ⟨_, rfl⟩
  have ha4 := apply_se hS8 key y b rs HK.out.2.2.2.2.2.2 (by rw [sum_eval]; show (wrap64 (gathS (1 + n) key b [⟨key, a, a, x⟩] + y), (0 : Int)) = _; rw [gath_two HK.out.2.2.2.1, hrs]) (fun _ => by simp)
  obtain ⟨ft, hft⟩ : ∃ ft, ft = Se.firstF (1 + n) key b [⟨key, a, a, x⟩] := ⟨_, rfl⟩
  unfold ApS at ha4
  rw [← hft] at ha4
  rw [first_two] at hft
  unfold recV at ha4
  have hst := (start_facts (n := 1 + n) (by omega) hb0 (by omega : b ≤ 1099511627776))
  obtain ⟨tb, htb⟩ : ∃ tb, tb = startF (1 + n) b := ⟨_, rfl⟩
  rw [← htb] at hW8 hp8 hst
  have H8 := Lib.hid (And.intro hS8 (And.intro hp8 (And.intro hM8 hb8)))
  have HE := Lib.hid (And.intro hrs (And.intro hft (And.intro hst htb)))
  have HW8 := Lib.hid hW8
  have hrw : recV key rr (startF (1 + n) b) = .agg #[.int .i64 key, .int .i64 rr, .int .i64 tb] := by rw [htb]; rfl
  rw [hrw]
  clear hw3 hA8 hM8 hf7 hr8 hq8 hO8 hW8 hb8 hp8 hS8 hrs hft hst htb hrw
  go_upto_region 10 with fail
  rw [← HW8.out]
  go_wp2_with fail
  refine ha4.mono ?_
  rintro e w9 ⟨sl4, v9, rfl, _, hS9, hM9⟩
  have hp9 := (hM9.keep w8.heap.size (Array.getElem?_eq_some_iff.1 H8.out.2.1).1 (H8.out.1.far H8.out.2.1 (by decide) (by decide))).trans H8.out.2.1
  obtain ⟨W9, hW9⟩ : ∃ W, W = w9.alloc (recRow key rs ft) := ⟨_, rfl⟩
  have hb9 : Below w9.heap.size w9 W9 := by rw [hW9]; exact below_alloc (Below.refl _ _) _
  have hq9 : W9.heap[w9.heap.size]? = some (recRow key rs ft) := by rw [hW9]; exact (Go.MapKept.heap_alloc w9 _).1
  have hp9' := (hb9.block _ (Array.getElem?_eq_some_iff.1 hp9).1).trans hp9
  have p1 : W9.cell? ⟨w8.heap.size, 1, none⟩ = some (.int .i64 rr) := (blk_cell hp9' 1).trans rfl
  have p2 : W9.cell? ⟨w8.heap.size, 2, none⟩ = some (.int .i64 tb) := (blk_cell hp9' 2).trans rfl
  have q1 : W9.cell? ⟨w9.heap.size, 1, none⟩ = some (.int .i64 rs) := (blk_cell hq9 1).trans rfl
  have q2 : W9.cell? ⟨w9.heap.size, 2, none⟩ = some (.int .i64 ft) := (blk_cell hq9 2).trans rfl
  have HW9 := Lib.hid hW9; have H9 := Lib.hid (And.intro hM9 hb9)
  clear ha4 hS9 hM9 hp9 hb9 hq9 hp9' hW9
  go_upto_region 11 with fail
  rw [← HW9.out]
  have hB9 : Below w.heap.size w W9 := by
    have e2 := HB2.out.size; have e3 := HA3.out.vx.low; have e4 := H4.out.2.2; have e5 := H5.out.2.2.2
    have b3 := below_then HB2.out e2 e3
    have b4 := below_then b3 b3.size e4
    have b5 := below_then b4 b4.size e5
    have b6 := H6.out.2.2.2.2.2.below b5 b5.size (fun k hk => by have := (HFW.out k hk).1; omega)
    have b7 := H7.out.2.2.2.1.below b6 b6.size (fun k hk => by have := HGE.out k hk; have := b4.size; omega)
    have b8 := H8.out.2.2.1.below b7 b7.size (fun k hk => by have := (HFW.out k hk).1; omega)
    have b8' := below_then b8 b8.size H8.out.2.2.2
    have b9 := H9.out.1.below b8' b8'.size (fun k hk => by
      rcases H7.out.2.2.2.1.new k hk with h | h
      · have := HGE.out k h; have := b4.size; omega
      · have := b6.size; omega)
    exact below_then b9 b9.size H9.out.2
  have HB9 := Lib.hid hB9
  obtain ⟨da, hda⟩ : ∃ da, da = a / (1 + n) := ⟨_, rfl⟩
  obtain ⟨db, hdb⟩ : ∃ db, db = b / (1 + n) := ⟨_, rfl⟩
  have i1 : Int.tdiv a (1 + n) = da := by rw [hda]; exact Int.tdiv_eq_ediv_of_nonneg ha0
  have i2 : Int.tdiv b (1 + n) = db := by rw [hdb]; exact Int.tdiv_eq_ediv_of_nonneg hb0
  have h1 := Int.ediv_nonneg ha0 (show 0 ≤ 1 + n by omega)
  have h2 := Int.ediv_le_self (1 + n) ha0
  have h3 := Int.ediv_nonneg hb0 (show 0 ≤ 1 + n by omega)
  have h4 := Int.ediv_le_self (1 + n) hb0
  rw [← hda] at h1 h2
  rw [← hdb] at h3 h4
  have i3 : IntKind.i64.wrap da = da := by rw [IntKind.wrap_i64]; omega
  have i4 : IntKind.i64.wrap db = db := by rw [IntKind.wrap_i64]; omega
  have htb : tb = db * (1 + n) := by rw [HE.out.2.2.1.1, ← hdb, Int.mul_comm]
  have hb2 := HE.out.2.2.1.2
  have i5 : IntKind.i64.wrap (db * (1 + n)) = tb := by rw [← htb, IntKind.wrap_i64]; omega
  have hz : 1 + n ≠ 0 := by omega
  have hrr := H7.out.2.2.2.2.2
  have hrs := HE.out.1
  have hft := HE.out.2.1
  rw [← hda, ← hdb] at hrr
  have hnear : (a - b ≤ 1 + n ∧ b - a ≤ 1 + n) ∨ (a - b ≤ 1 + n ∧ 1 + n < b - a) ∨ 1 + n < a - b := by omega
  have hy0 : wrap64 (0 + y) = y := wrap_0 HK.out.2.2.2.2.1
  have hmin : min b a = min a b := by omega
  clear htb hb2 hda hdb HE
  by_cases hs : da = db
  · rw [if_pos hs] at hrr
    have hsb : (da == db) = true := beq_iff_eq.2 hs
    subst hrr
    clear hs
    rcases hnear with ⟨g1, g2⟩ | ⟨g1, g2⟩ | g1
    · rw [if_pos (by omega)] at hrs hft
      rw [hmin] at hft
      subst hrs hft
      clear hmin hy0
      go_quiet (fail)
      go_wp2_with fail
      go_quiet (fail)
      go_wp2_with fail
      go_ret
      exact ⟨rfl, pw_below_drewN (pw_below_drewN HB9.out _) _⟩
    · have g3 : decide (b - a ≤ 1 + n) = false := decide_eq_false (by omega)
      rw [if_neg (by omega)] at hrs hft
      rw [hy0] at hrs
      subst hrs hft
      clear hmin hy0
      go_quiet (fail)
      go_wp2_with fail
      go_quiet (fail)
      go_wp2_with fail
      go_ret
      exact ⟨rfl, pw_below_drewN (pw_below_drewN HB9.out _) _⟩
    · have g3 : decide (a - b ≤ 1 + n) = false := decide_eq_false (by omega)
      rw [if_neg (by omega)] at hrs hft
      rw [hy0] at hrs
      subst hrs hft
      clear hmin hy0
      go_quiet (fail)
      go_wp2_with fail
      go_quiet (fail)
      go_wp2_with fail
      go_ret
      exact ⟨rfl, pw_below_drewN (pw_below_drewN HB9.out _) _⟩
  · rw [if_neg hs, hy0] at hrr
    have hsb : (da == db) = false := beq_eq_false_iff_ne.2 hs
    subst hrr
    clear hs
    rcases hnear with ⟨g1, g2⟩ | ⟨g1, g2⟩ | g1
    · rw [if_pos (by omega)] at hrs hft
      rw [hmin] at hft
      subst hrs hft
      clear hmin hy0
      go_quiet (fail)
      go_wp2_with fail
      go_quiet (fail)
      go_wp2_with fail
      go_ret
      exact ⟨rfl, pw_below_drewN (pw_below_drewN HB9.out _) _⟩
    · have g3 : decide (b - a ≤ 1 + n) = false := decide_eq_false (by omega)
      rw [if_neg (by omega)] at hrs hft
      rw [hy0] at hrs
      subst hrs hft
      clear hmin hy0
      go_quiet (fail)
      go_wp2_with fail
      go_quiet (fail)
      go_wp2_with fail
      go_ret
      exact ⟨rfl, pw_below_drewN (pw_below_drewN HB9.out _) _⟩
    · have g3 : decide (a - b ≤ 1 + n) = false := decide_eq_false (by omega)
      rw [if_neg (by omega)] at hrs hft
      rw [hy0] at hrs
      subst hrs hft
      clear hmin hy0
      go_quiet (fail)
      go_wp2_with fail
      go_quiet (fail)
      go_wp2_with fail
      go_ret
      exact ⟨rfl, pw_below_drewN (pw_below_drewN HB9.out _) _⟩
end Go.Proofs.Ytanhibhcmfmeeaa.Ag
