import Derived.Test.YtanhibhcmfmeeaaAgSum
import Derived.Test.YtanhibhcmfmeeaaAgWn2
/- A record that isn't late never meets a window that expired. -/
namespace Go.Proofs.Ytanhibhcmfmeeaa.Ag
open Go.RowKit Go.Proofs.YtanhibhcmfmeeaaW.PrintWords Go.Proofs.YtanhibhcmfmeeaaW.PrintMore Go.Proofs.Ytanhibhcmfmeeaa.Cut Go.Proofs.Ytanhibhcmfmeeaa.Fr Go.Proofs.Ytanhibhcmfmeeaa.SlK Go.Proofs.Ytanhibhcmfmeeaa.Ex
open Go.Proofs.Ytanhibhcmfmeeaa.Win (St P2 startF)
theorem tw_mem {α : Type} {p : α → Bool} : ∀ {l : List α} {x : α}, x ∈ l.takeWhile p → p x = true
  | y :: r, x, h => by
    by_cases hy : p y = true
    · rw [List.takeWhile_cons_of_pos hy] at h
      rcases List.mem_cons.1 h with rfl | h
      · exact hy
      · exact tw_mem h
    · rw [List.takeWhile_cons_of_neg hy] at h
      cases h
theorem wrap_w64 (a : Int) : Win.W64 (wrap64 a) := WalkArith.wf_i64 (by unfold wrap64; omega)
set_option maxRecDepth 100000 in
set_option maxHeartbeats 8000000 in
theorem ends_walk (n : Int) (hn0 : 0 ≤ n) (hn1 : n ≤ 255) (A : Option Addr) (c : Nat) (l : List R3) (mark : Int) (hm0 : 0 ≤ mark) (hm1 : mark ≤ 65535) (key val time : Int) (w : World) (hC : KRec.C w A l.length l) (hW : ∀ x ∈ l, Win.W64 x.1) :
    Calls Try.prog 6 #[.int .u8 n, .slice A l.length c, .int .u16 mark, .agg #[.int .i64 key, .int .i64 val, .int .i64 time]] w fun e w' => e = .returned (.bool true) ∧ Below w.heap.size w w' := by
  obtain ⟨W, hWW⟩ : ∃ W, W = w.alloc (.cells #[.int .i64 key, .int .i64 val, .int .i64 time] 36) := ⟨_, rfl⟩
  have hB : Below w.heap.size w W := by rw [hWW]; exact below_alloc (Below.refl _ _) _
  have hr : W.heap[w.heap.size]? = some (.cells #[.int .i64 key, .int .i64 val, .int .i64 time] 36 (0, 0)) := by rw [hWW]; exact (Go.MapKept.heap_alloc w _).1
  have hsh := shown_calls W
  have hlm : l.length ≤ 9223372036854775807 := hC.2.1
  have HC := Lib.hid (Kd.C_below hC hB); have HW := Lib.hid hW; have HWW := Lib.hid hWW; have HB := Lib.hid hB; have HR := Lib.hid hr
  obtain ⟨k, hk⟩ : ∃ k, k = l.length := ⟨_, rfl⟩
  rw [← hk] at HC hlm ⊢
  have t1 : IntKind.i64.wrap mark = mark := by rw [IntKind.wrap_i64]; omega
  clear hC hk hW hWW hB hr
  go_enter Try.func6, Try.ntmps6
  go_upto_region 1 with fail
  rw [← HWW.out]
  go_wp2_with fail
  refine hsh.mono ?_
  rintro e w1 ⟨rfl, hB1⟩
  have hu := usual_calls 1 n (by decide) ⟨hn0, hn1⟩ w1
  have HB1 := Lib.hid (below_then HB.out HB.out.size hB1)
  have HR1 := Lib.hid ((hB1.block _ (Array.getElem?_eq_some_iff.1 HR.out).1).trans HR.out)
  have HC1 := Lib.hid (Kd.C_below HC.out hB1)
  clear hsh hB1 HC HB HR HWW
  go_wp2_with fail
  refine hu.mono ?_
  rintro e w2 ⟨v, rfl, hv, hB2⟩
  obtain ⟨fA, fn, fc, kA, kc, rfl, hx⟩ := hv.out
  have e7 : kindU 1 = 7 := by decide
  rw [e7] at hv ⊢
  obtain ⟨W3, hW3⟩ : ∃ W, W = w2.alloc (.cells #[.int .i64 7, .slice fA fn fc, .int .i64 sumE.op, .int .i64 sumE.n, .slice kA sumE.kids.length kc, .int .i64 (1 + n)] 33) := ⟨_, rfl⟩
  have hb3 : Below w2.heap.size w2 W3 := by rw [hW3]; exact below_alloc (Below.refl _ _) _
  have hr3 : W3.heap[w2.heap.size]? = some (.cells #[.int .i64 7, .slice fA fn fc, .int .i64 sumE.op, .int .i64 sumE.n, .slice kA sumE.kids.length kc, .int .i64 (1 + n)] 33 (0, 0)) := by rw [hW3]; exact (Go.MapKept.heap_alloc w2 _).1
  have hnew := new_win (hv.below hb3) (by omega) sum_may
  have HB2 := Lib.hid (below_then (below_then HB1.out HB1.out.size hB2) (below_then HB1.out HB1.out.size hB2).size hb3)
  have HR2 := Lib.hid ((hb3.block _ (Array.getElem?_eq_some_iff.1 ((hB2.block _ (Array.getElem?_eq_some_iff.1 HR1.out).1).trans HR1.out)).1).trans ((hB2.block _ (Array.getElem?_eq_some_iff.1 HR1.out).1).trans HR1.out))
  have HC2 := Lib.hid (Kd.C_below (Kd.C_below HC1.out hB2) hb3)
  have HW3 := Lib.hid hW3; have HV3 := Lib.hid hr3
  obtain ⟨v0, v1, v2, v3, v4, v5⟩ : W3.cell? ⟨w2.heap.size, 0, none⟩ = some (.int .i64 7) ∧ W3.cell? ⟨w2.heap.size, 1, none⟩ = some (.slice fA fn fc) ∧ W3.cell? ⟨w2.heap.size, 2, none⟩ = some (.int .i64 sumE.op) ∧ W3.cell? ⟨w2.heap.size, 3, none⟩ = some (.int .i64 sumE.n) ∧ W3.cell? ⟨w2.heap.size, 4, none⟩ = some (.slice kA sumE.kids.length kc) ∧ W3.cell? ⟨w2.heap.size, 5, none⟩ = some (.int .i64 (1 + n)) := ⟨(blk_cell hr3 0).trans rfl, (blk_cell hr3 1).trans rfl, (blk_cell hr3 2).trans rfl, (blk_cell hr3 3).trans rfl, (blk_cell hr3 4).trans rfl, (blk_cell hr3 5).trans rfl⟩
  clear hu hB2 HB1 HR1 HC1 hv hW3 hb3 hr3 hx
  go_upto_region 3 with fail
  rw [← HW3.out]
  go_wp2_with fail
  refine hnew.mono ?_
  rintro e w4 ⟨a, s, b, rfl, hA, _, _⟩
  have HA := Lib.hid hA
  clear hnew hA v0 v1 v2 v3 v4 v5
  go_wp2_with fail
  go_loopw [13] (fun u13 wr => ∃ (j : Nat) (m : St), j ≤ k ∧ u13 = .int .i64 j ∧ m.length ≤ j ∧ j ≤ 100 ∧ AgW W3 wr a s b (1 + n) sumE m) (fun u13 _ => k - (intOf u13).toNat)
  case atStart => exact ⟨0, [], Nat.zero_le _, rfl, Nat.le_refl _, by decide, HA.out⟩
  case round =>
    obtain ⟨j, m, hj, rfl, hml, hj2, hA⟩ := hrel
    clear HA
    by_cases hlt : j < k ∧ j < 100
    · obtain ⟨hl1, hl2⟩ := hlt
      have hli : (j : Int) < (k : Int) := by omega
      have hl2i : (j : Int) < 100 := by omega
      obtain ⟨ad, ⟨rk, rv, rt⟩, rfl, hx, d0, d1, d2⟩ := at_R3 (Kd.C_below HC2.out hA.vx.low) j hl1
      have hwx : Win.W64 rk := HW.out _ (List.mem_of_getElem? hx)
      have HA := Lib.hid hA
      simp only at d0 d1 d2
      cases hm : mayT rt with
      | false =>
        have ha := apply_range hA.vx rk rv rt hm
        unfold recV at ha
        clear hA hm hx hwx
        go_wp2_with fail
        refine ha.mono ?_
        rintro e w5 ⟨rfl, hB5⟩
        have HK := Lib.hid (HA.out.below hB5)
        clear ha hB5 HA d0 d1 d2
        go_wp2_with fail
        go_roundw
        case rel => exact ⟨j + 1, m, by omega, by go_num, by omega, by omega, HK.out⟩
        case measure => simp [intOf]; omega
      | true =>
        have ha := apply_win hA rk rv rt _ hwx (wrap_w64 _) hm (sum_eval _) (fun _ => by omega)
        have hlen := Win.put_len (startF (1 + n) rt, rk) (wrap64 ((Win.look m (startF (1 + n) rt, rk)).getD 0 + rv)) hA.tb.sorted
        unfold recV at ha
        have HL := Lib.hid hlen
        clear hA hm hx hwx hlen
        go_wp2_with fail
        refine ha.mono ?_
        rintro e w5 ⟨sl, rfl, hR5, hK5, hM5⟩
        have HK := Lib.hid hK5
        clear ha hR5 hK5 hM5 HA d0 d1 d2
        go_wp2_with fail
        go_roundw
        case rel => exact ⟨j + 1, _, by omega, by go_num, by have := HL.out; split at this <;> omega, by omega, HK.out⟩
        case measure => simp [intOf]; omega
    · have he := expire_win hA mark (by omega)
      have HA := Lib.hid hA
      clear hA
      by_cases hk1 : j < k
      all_goals
        try have hk2 : (100 : Int) ≤ (j : Int) := by omega
        try have hk3 : (k : Int) ≤ (j : Int) := by omega
        try have hk4 : (j : Int) < (k : Int) := by omega
        clear hlt
        go_wp2_with fail
        refine he.mono ?_
        rintro e w5 ⟨v, rfl, hR5, hA5, hM5⟩
        obtain ⟨A5, c5, rfl, hc5, hC5⟩ := Kd.R_reads hR5
        have hown := own_row hR5
        have hout : ∀ (i : Nat) (y : T5), (Win.outT (1 + n) (mark - (1 + n)) m)[i]? = some y → y.2.2.1 ≤ mark - (1 + n) ∧ y.2.1 = y.2.2.1 - (1 + n) := fun i y hy => by
          have hym := List.mem_of_getElem? hy
          unfold Win.outT at hym
          obtain ⟨z, hz, rfl⟩ := List.mem_map.1 hym
          have := tw_mem hz
          have h2 : z.1.1 + (1 + n) ≤ mark - (1 + n) := of_decide_eq_true this
          exact ⟨h2, by simp only [Win.goneT]; omega⟩
        generalize Win.outT (1 + n) (mark - (1 + n)) m = ys at hc5 hC5 hout hown
        have HOW := Lib.hid hown
        clear hown
        have hpl : ys.length ≤ 9223372036854775807 := hC5.2.1
        obtain ⟨p, hp⟩ : ∃ p, p = ys.length := ⟨_, rfl⟩
        rw [← hp] at hc5 hC5 hpl HOW ⊢
        have hlate := late_win hA5 key val time mark
        unfold recV at hlate
        have hB5 := hA5.vx.low
        have hr5 := (hB5.block _ (Array.getElem?_eq_some_iff.1 HR2.out).1).trans HR2.out
        have hv5 := (hB5.block _ (Array.getElem?_eq_some_iff.1 HV3.out).1).trans HV3.out
        have d0 : w5.cell? ⟨w.heap.size, 0, none⟩ = some (.int .i64 key) := (blk_cell hr5 0).trans rfl
        have d1 : w5.cell? ⟨w.heap.size, 1, none⟩ = some (.int .i64 val) := (blk_cell hr5 1).trans rfl
        have d2 : w5.cell? ⟨w.heap.size, 2, none⟩ = some (.int .i64 time) := (blk_cell hr5 2).trans rfl
        have d5 : w5.cell? ⟨w2.heap.size, 5, none⟩ = some (.int .i64 (1 + n)) := (blk_cell hv5 5).trans rfl
        have HB5 := Lib.hid (below_then HB2.out HB2.out.size hB5)
        have HO := Lib.hid hout; have HC5 := Lib.hid hC5; have HP := Lib.hid hp
        clear he hR5 hA5 hM5 HA hr5 hv5 hB5 hout hC5 hp HR2 HV3 HC2 HW3
        go_wp2_with fail
        refine hlate.mono ?_
        rintro e w6 ⟨rfl, hB6⟩
        have e2 := keepB hB6 d2
        have e5 := keepB hB6 d5
        have HC6 := Lib.hid (Kd.C_below HC5.out hB6)
        have HB6 := Lib.hid (below_then HB5.out HB5.out.size hB6)
        clear hlate hB6 HB5 HC5 d0 d1 d2 d5
        have hcs : (time < 0 ∧ mayT time = false) ∨ (0 ≤ time ∧ 1099511627776 < time ∧ mayT time = false) ∨ (0 ≤ time ∧ time ≤ 1099511627776 ∧ mayT time = true ∧ startF (1 + n) time + (1 + n) ≤ mark) ∨ (0 ≤ time ∧ time ≤ 1099511627776 ∧ mayT time = true ∧ mark < startF (1 + n) time + (1 + n)) := by
          unfold mayT
          by_cases h0 : 0 ≤ time
          · by_cases h1 : time ≤ 1099511627776
            · by_cases h2 : startF (1 + n) time + (1 + n) ≤ mark
              · exact .inr (.inr (.inl ⟨h0, h1, decide_eq_true ⟨h0, h1⟩, h2⟩))
              · exact .inr (.inr (.inr ⟨h0, h1, decide_eq_true ⟨h0, h1⟩, by omega⟩))
            · exact .inr (.inl ⟨h0, by omega, decide_eq_false (fun e => h1 e.2)⟩)
          · exact .inl ⟨by omega, decide_eq_false (fun e => h0 e.1)⟩
        rcases hcs with ⟨h0, hm⟩ | ⟨h0, h1, hm⟩ | ⟨h0, h1, hm, hS⟩ | ⟨h0, h1, hm, hS⟩
        all_goals
          rw [hm]
          first
          | rw [Bool.false_and]
          | rw [Bool.true_and, decide_eq_true hS]
          | rw [Bool.true_and, decide_eq_false (by omega)]
          have HS := Lib.hid hm
          try have HSS := Lib.hid hS
          try clear hS
          clear hm
          try have g4 : decide (time ≤ 1099511627776) = true := decide_eq_true (by assumption)
          try have g5 : decide (time ≤ 1099511627776) = false := decide_eq_false (by omega)
          go_wp2_with fail
          go_loopw [17] (fun u17 wx => ∃ (i : Nat), i ≤ p ∧ u17 = .int .i64 i ∧ K5.C wx A5 p ys ∧ Below w.heap.size w wx ∧ wx.cell? ⟨w.heap.size, 2, none⟩ = some (.int .i64 time) ∧ wx.cell? ⟨w2.heap.size, 5, none⟩ = some (.int .i64 (1 + n))) (fun u17 _ => p - (intOf u17).toNat)
          case atStart => exact ⟨0, Nat.zero_le _, rfl, HC6.out, HB6.out, e2, e5⟩
          case round =>
            clear HC6 HB6 e2 e5
            rename World => wx
            obtain ⟨i, hi, rfl, hC, hB, e2, e5⟩ := hrel
            have HC := Lib.hid hC; have HB := Lib.hid hB; have H5 := Lib.hid e5
            clear hC hB
            by_cases hip : i < p
            · have hipi : (i : Int) < (p : Int) := by omega
              obtain ⟨ad, y, rfl, hy, y0, y1, y2, _⟩ := at_C5 HC.out i hip
              obtain ⟨o1, o2⟩ := HO.out i y hy
              obtain ⟨z0, z1, z2, z3, z4⟩ := y
              obtain ⟨g, hg, _⟩ := HOW.out (by omega)
              obtain rfl := Option.some.inj hg
              rw [add_plain] at y1 y2
              simp only at y0 y1 y2 o1 o2
              have g1 : decide (mark < z2) = false := decide_eq_false (by omega)
              try have g2 : decide (time < z2) = false := decide_eq_false (by have h1 := HSS.out; have h2 := (start_facts (n := 1 + n) (by omega) h0 ‹_›).2.2.1; omega)
              try have g3 : decide (z1 ≤ time) = true := decide_eq_true (by have := of_decide_eq_false g2; omega)
              have E2 := Lib.hid e2
              clear y0 hy o1 o2 e5
              go_wp2_with fail
              go_quiet (fail)
              go_wp2_with fail
              go_roundw
              case rel => exact ⟨i + 1, by omega, by go_num, HC.out, pw_below_drewN HB.out _, E2.out, H5.out⟩
              case measure => simp [intOf]; omega
            · obtain rfl : i = p := by omega
              have hz : 1 + n ≠ 0 := by omega
              first
              | (have hf := start_facts (n := 1 + n) (a := time) (by omega) h0 ‹_›
                 have hS := HSS.out
                 rw [hf.1] at hS hf
                 have h1 := Int.ediv_nonneg h0 (show 0 ≤ 1 + n by omega)
                 have h2 := Int.ediv_le_self (1 + n) h0
                 obtain ⟨d, hd⟩ : ∃ d, d = time / (1 + n) := ⟨_, rfl⟩
                 rw [← hd] at hS hf h1 h2
                 have hm2 : (d + 1) * (1 + n) = (1 + n) * d + (1 + n) := by rw [Int.add_mul, Int.one_mul, Int.mul_comm]
                 rw [← hm2] at hS
                 obtain ⟨S, hSS⟩ : ∃ S, S = (d + 1) * (1 + n) := ⟨_, rfl⟩
                 rw [← hSS] at hS hm2
                 have q1 : Int.tdiv time (1 + n) = d := by rw [hd]; exact Int.tdiv_eq_ediv_of_nonneg h0
                 have q2 : IntKind.i64.wrap d = d := by rw [IntKind.wrap_i64]; omega
                 have q3 : IntKind.i64.wrap (d + 1) = d + 1 := by rw [IntKind.wrap_i64]; omega
                 have q4 : IntKind.i64.wrap ((d + 1) * (1 + n)) = S := by rw [IntKind.wrap_i64, ← hSS]; omega
                 try have q5 : decide (S ≤ mark) = true := decide_eq_true (by omega)
                 try have q5 : decide (S ≤ mark) = false := decide_eq_false (by omega)
                 clear hf hS h1 h2 hd hm2 hSS)
              | skip
              clear e5
              have e5 := H5.out
              go_wp2_with fail
              go_quiet (fail)
              go_wp2_with fail
              go_ret
              exact ⟨rfl, pw_below_drewN HB.out _⟩
end Go.Proofs.Ytanhibhcmfmeeaa.Ag
