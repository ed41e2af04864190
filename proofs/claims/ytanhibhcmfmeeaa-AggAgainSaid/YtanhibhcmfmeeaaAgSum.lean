import Derived.Test.YtanhibhcmfmeeaaAgAll
/- A table's sum of a key is the sum of all its records' values. -/
namespace Go.Proofs.Ytanhibhcmfmeeaa.Ag
open Go.RowKit Go.Proofs.YtanhibhcmfmeeaaW.PrintWords Go.Proofs.YtanhibhcmfmeeaaW.PrintMore Go.Proofs.Ytanhibhcmfmeeaa.Cut Go.Proofs.Ytanhibhcmfmeeaa.Fr Go.Proofs.Ytanhibhcmfmeeaa.SlK Go.Proofs.Ytanhibhcmfmeeaa.Ex
abbrev R3 := Int × Int × Int
abbrev KRec : Kd R3 := Kd.pair (Kd.int .i64) (Kd.pair (Kd.int .i64) (Kd.int .i64))
theorem at_R3 {w : World} {A : Option Addr} {n : Nat} {l : List R3} (h : KRec.C w A n l) (i : Nat) (hi : i < n) : ∃ ad x, A = some ad ∧ l[i]? = some x ∧ w.cell? (ad.add (i * 3)) = some (.int .i64 x.1) ∧ w.cell? ⟨(ad.add (i * 3)).block, (ad.add (i * 3)).off + 1, none⟩ = some (.int .i64 x.2.1) ∧
    w.cell? ⟨(ad.add (i * 3)).block, (ad.add (i * 3)).off + 2, none⟩ = some (.int .i64 x.2.2) := by
  obtain ⟨hl, _, h⟩ := h
  obtain ⟨ad, hA, hc⟩ := h (by omega)
  have hil : i < l.length := by omega
  obtain ⟨cs, _, hk, hat⟩ := hc i (l[i]) (List.getElem?_eq_getElem hil)
  have e1 : KRec.sz = 3 := rfl
  rw [e1] at hat
  obtain ⟨_, _, rfl, rfl, ⟨_, _, rfl, rfl, rfl⟩⟩ := hk
  refine ⟨ad, l[i], hA, List.getElem?_eq_getElem hil, hat 0 _ rfl, ?_, ?_⟩
  · rw [← add_field _ _ 1 (by omega)]; exact hat 1 _ rfl
  · rw [← add_field _ _ 2 (by omega)]; exact hat 2 _ rfl
set_option maxRecDepth 100000 in
set_option maxHeartbeats 8000000 in
theorem sums_walk (A : Option Addr) (c : Nat) (l : List R3) (key : Int) (w : World) (hC : KRec.C w A l.length l) : Calls Try.prog 3 #[.slice A l.length c, .int .i64 key] w fun e w' => e = .returned (.bool true) ∧ Below w.heap.size w w' := by
  have hsh := shown_calls w
  have hlm : l.length ≤ 9223372036854775807 := hC.2.1
  have HC := Lib.hid hC
  obtain ⟨n, hn⟩ : ∃ n, n = l.length := ⟨_, rfl⟩
  rw [← hn] at HC hlm ⊢
  clear hC hn
  go_enter Try.func3, Try.ntmps3
  go_wp2_with fail
  refine hsh.mono ?_
  rintro e w1 ⟨rfl, hB1⟩
  have hu := usual_calls 0 0 (by decide) (by decide) w1
  have HB1 := Lib.hid hB1
  clear hsh hB1
  go_wp2_with fail
  refine hu.mono ?_
  rintro e w2 ⟨v, rfl, hv, hB2⟩
  have hn := new_kv hv sum_may
  have HB2 := Lib.hid (below_then HB1.out HB1.out.size hB2)
  obtain ⟨fA, fn, fc, kA, kc, rfl, _⟩ := hv.out
  clear hu hv hB2 HB1
  go_wp2_with fail
  refine hn.mono ?_
  rintro e w3 ⟨a, s, rfl, hV, hO, hsa⟩
  have HK := Lib.hid (show AgK w2 w3 a s (1 + 0) sumE [] (.slice none 0 0) from ⟨hV, hO⟩)
  clear hn hV hO hsa
  go_wp2_with fail
  go_loopw [8, 9] (fun u8 u9 wr => ∃ (k : Nat) (t : Kv.L2) (v : Value), k ≤ n ∧ u9 = .int .i64 k ∧ u8 = .int .i64 ((Kv.look t key).getD 0) ∧ t.length ≤ k ∧ k ≤ 200 ∧ AgK w2 wr a s (1 + 0) sumE t v) (fun _ u9 _ => n - (intOf u9).toNat)
  case atStart => exact ⟨0, [], _, Nat.zero_le _, rfl, rfl, Nat.le_refl _, by decide, HK.out⟩
  case round =>
    obtain ⟨k, t, v, hk, rfl, rfl, htl, hk2, hK⟩ := hrel
    clear HK
    have HK := Lib.hid hK
    by_cases hlt : k < n ∧ k < 200
    · obtain ⟨hl1, hl2⟩ := hlt
      have hli : (k : Int) < (n : Int) := by omega
      have hl2i : (k : Int) < 200 := by omega
      have hBr := below_then HB2.out HB2.out.size hK.vx.low
      obtain ⟨ad, ⟨rk, rv, rt⟩, rfl, _, d0, d1, d2⟩ := at_R3 (Kd.C_below HC.out hBr) k hl1
      obtain ⟨W1, hW1⟩ : ∃ W, W = wr.alloc (.cells #[.int .i64 rk, .int .i64 rv, .int .i64 rt] 36) := ⟨_, rfl⟩
      have hb1 : Below wr.heap.size wr W1 := by rw [hW1]; exact below_alloc (Below.refl _ _) _
      have hr1 : W1.heap[wr.heap.size]? = some (.cells #[.int .i64 rk, .int .i64 rv, .int .i64 rt] 36 (0, 0)) := by rw [hW1]; exact (Go.MapKept.heap_alloc wr _).1
      have hK1 := hK.below hb1
      have b0 : W1.cell? ⟨wr.heap.size, 0, none⟩ = some (.int .i64 rk) := (blk_cell hr1 0).trans rfl
      have b1 : W1.cell? ⟨wr.heap.size, 1, none⟩ = some (.int .i64 rv) := (blk_cell hr1 1).trans rfl
      have b2 : W1.cell? ⟨wr.heap.size, 2, none⟩ = some (.int .i64 rt) := (blk_cell hr1 2).trans rfl
      have HW1 := Lib.hid hW1; have HR1 := Lib.hid hr1; have HK1 := Lib.hid hK1
      clear hK hW1 hb1 hBr
      simp only at d0 d1 d2
      cases hm : mayT rt with
      | false =>
        have ha := apply_range hK1.vx rk rv rt hm
        unfold recV at ha
        have hrt : ¬ (0 ≤ rt ∧ rt ≤ 1099511627776) := of_decide_eq_false hm
        clear hK1 hr1 hm
        by_cases h0 : 0 ≤ rt
        all_goals
          go_upto_region 10 with fail
          rw [← HW1.out]
          go_wp2_with fail
          refine ha.mono ?_
          rintro e w4 ⟨rfl, hB4⟩
          have hr4 := (hB4.block _ (Array.getElem?_eq_some_iff.1 HR1.out).1).trans HR1.out
          have hK4 := HK1.out.below hB4
          obtain ⟨W4, hW4⟩ : ∃ W, W = w4.alloc (.cells #[.int .i64 0, .int .i64 0, .int .i64 0] 36) := ⟨_, rfl⟩
          have hb4 : Below w4.heap.size w4 W4 := by rw [hW4]; exact below_alloc (Below.refl _ _) _
          have hr5 := (hb4.block _ (Array.getElem?_eq_some_iff.1 hr4).1).trans hr4
          have c0 : W4.cell? ⟨wr.heap.size, 0, none⟩ = some (.int .i64 rk) := (blk_cell hr5 0).trans rfl
          have c1 : W4.cell? ⟨wr.heap.size, 1, none⟩ = some (.int .i64 rv) := (blk_cell hr5 1).trans rfl
          have c2 : W4.cell? ⟨wr.heap.size, 2, none⟩ = some (.int .i64 rt) := (blk_cell hr5 2).trans rfl
          have HK5 := Lib.hid (hK4.below hb4); have HW4 := Lib.hid hW4
          try have h3 : decide (rt ≤ 1099511627776) = false := decide_eq_false (by omega)
          try have h4 : decide (0 ≤ rt) = false := decide_eq_false (by omega)

          clear ha hB4 hr4 hK4 hW4 hb4 hr5 HK1 HR1 HW1 HK hrt b0 b1 b2
          try unfold recV
          go_upto_region 11 with fail
          rw [← HW4.out]
          go_wp2_with fail
          go_quiet (fail)
          go_wp2_with fail
          go_roundw
          case rel => exact ⟨k + 1, t, v, by omega, by go_num, rfl, by omega, by omega, HK5.out.below (pw_below_drewN (Below.refl _ _) _)⟩
          case measure => simp [intOf]; omega
      | true =>
        have ha := apply_kv hK1 rk rv rt (wrap64 ((Kv.look t rk).getD 0 + rv)) hm (sum_eval _) (fun _ => by omega)
        have hrt : 0 ≤ rt ∧ rt ≤ 1099511627776 := of_decide_eq_true hm
        obtain ⟨r, hr⟩ : ∃ r, r = wrap64 ((Kv.look t rk).getD 0 + rv) := ⟨_, rfl⟩
        rw [← hr] at ha
        have HR := Lib.hid hr
        obtain ⟨h0, h1⟩ := hrt
        unfold recV at ha
        clear hK1 hr1 hm hr
        go_upto_region 10 with fail
        rw [← HW1.out]
        go_wp2_with fail
        refine ha.mono ?_
        rintro e w4 ⟨sl, v', rfl, hR5, hK4, hM4⟩
        unfold recV
        obtain ⟨A5, c5, rfl, hc5, _⟩ := Kd.R_reads hR5
        have hr4 := (hM4.keep _ (Array.getElem?_eq_some_iff.1 HR1.out).1 (HK1.out.far HR1.out (by decide) (by decide))).trans HR1.out
        obtain ⟨W4, hW4⟩ : ∃ W, W = w4.alloc (.cells #[.int .i64 rk, .int .i64 r, .int .i64 rt] 36) := ⟨_, rfl⟩
        have hb4 : Below w4.heap.size w4 W4 := by rw [hW4]; exact below_alloc (Below.refl _ _) _
        have hr5 := (hb4.block _ (Array.getElem?_eq_some_iff.1 hr4).1).trans hr4
        have hr6 : W4.heap[w4.heap.size]? = some (.cells #[.int .i64 rk, .int .i64 r, .int .i64 rt] 36 (0, 0)) := by rw [hW4]; exact (Go.MapKept.heap_alloc w4 _).1
        have e0 : W4.cell? ⟨wr.heap.size, 0, none⟩ = some (.int .i64 rk) := (blk_cell hr5 0).trans rfl
        have e1 : W4.cell? ⟨wr.heap.size, 1, none⟩ = some (.int .i64 rv) := (blk_cell hr5 1).trans rfl
        have e2 : W4.cell? ⟨wr.heap.size, 2, none⟩ = some (.int .i64 rt) := (blk_cell hr5 2).trans rfl
        have f0 : W4.cell? ⟨w4.heap.size, 0, none⟩ = some (.int .i64 rk) := (blk_cell hr6 0).trans rfl
        have f1 : W4.cell? ⟨w4.heap.size, 1, none⟩ = some (.int .i64 r) := (blk_cell hr6 1).trans rfl
        have f2 : W4.cell? ⟨w4.heap.size, 2, none⟩ = some (.int .i64 rt) := (blk_cell hr6 2).trans rfl
        have hK5 := hK4.below hb4
        have hv := value_k (hK5.below (w' := W4.drew) (below_drew (Below.refl _ _))) rk
        have hlr : (Kv.look (Kv.putL rk r t) rk).getD 0 = r := by rw [Kv.look_put rk r HK1.out.tb.sorted, if_pos rfl]; rfl
        rw [hlr] at hv
        have hlen := Kv.len_put rk r HK1.out.tb.sorted
        have hlk := Kv.look_put rk r HK1.out.tb.sorted key
        have HK5 := Lib.hid hK5; have HW4 := Lib.hid hW4; have HL := Lib.hid (And.intro hlen hlk)
        clear ha hR5 hK4 hM4 hr4 hb4 hr5 hr6 hK5 hW4 hlr hlen hlk HK1 HR1 HW1 HK b0 b1 b2
        have g1 : decide (0 ≤ rt) = true := decide_eq_true h0
        have g2 : decide (rt ≤ 1099511627776) = true := decide_eq_true h1
        go_upto_region 11 with fail
        rw [← HW4.out]
        go_upto_region 12 with fail
        go_cut [90] (fun u wx => u = .bool false ∧ AgK w2 wx a s (1 + 0) sumE (Kv.putL rk r t) v' ∧ wx.cell? ⟨wr.heap.size, 0, none⟩ = some (.int .i64 rk) ∧ wx.cell? ⟨wr.heap.size, 1, none⟩ = some (.int .i64 rv))
        case first =>
          go_region_held3 (fun V => V.cell? ⟨wr.heap.size, 0, none⟩ = some (.int .i64 rk) ∧ V.cell? ⟨wr.heap.size, 2, none⟩ = some (.int .i64 rt) ∧ V.cell? ⟨w4.heap.size, 0, none⟩ = some (.int .i64 rk) ∧ V.cell? ⟨w4.heap.size, 1, none⟩ = some (.int .i64 r) ∧ V.cell? ⟨w4.heap.size, 2, none⟩ = some (.int .i64 rt)) (go_keep)
            (first
            | (go_at_call 13; (with_reducible refine hv.mono ?_); rintro e w5 ⟨rfl, hB5⟩; have HB5 := Lib.hid hB5; have k0 := keepB hB5 e0; have k1 := keepB hB5 e2; have k2 := keepB hB5 f0; have k3 := keepB hB5 f1; have k4 := keepB hB5 f2; have k5 := keepB hB5 e1; clear hB5))
          all_goals
            go_wp2_with fail
            go_meet
            case rel => exact ⟨rfl, HK5.out.below (below_then (below_drew (Below.refl W4.heap.size W4)) (Nat.le_refl _) HB5.out), k0, k5⟩
        case rest =>
          obtain ⟨rfl, hKx, x0, x1⟩ := hcut
          rename World => wx
          have HKx := Lib.hid hKx
          clear hKx hv e0 e1 e2 f0 f1 f2 HK5 HW4
          have htl2 : (Kv.putL rk r t).length ≤ k + 1 := by have := HL.out.1; omega
          have HTL := Lib.hid htl2
          clear htl2
          by_cases hkey : rk = key
          · have hkl : (Kv.look (Kv.putL rk r t) key).getD 0 = wrap64 ((Kv.look t key).getD 0 + rv) := by
              rw [HL.out.2, if_pos hkey.symm, Option.getD_some, HR.out, hkey]
            have HKL := Lib.hid hkl
            subst hkey
            clear hkl
            go_wp2_with fail
            go_roundw
            case rel => exact ⟨k + 1, _, v', by omega, by go_num, by rw [HKL.out], HTL.out, by omega, HKx.out⟩
            case measure => simp [intOf]; omega
          · have hkl : (Kv.look (Kv.putL rk r t) key).getD 0 = (Kv.look t key).getD 0 := by
              rw [HL.out.2, if_neg (fun e => hkey e.symm)]
            have HKL := Lib.hid hkl
            have hkb : (rk == key) = false := beq_eq_false_iff_ne.2 hkey
            clear hkl
            go_wp2_with fail
            go_roundw
            case rel => exact ⟨k + 1, _, v', by omega, by go_num, by rw [HKL.out], HTL.out, by omega, HKx.out⟩
            case measure => simp [intOf]; omega
    · have hv := value_k hK key
      have hBr := below_then HB2.out HB2.out.size hK.vx.low
      have HB := Lib.hid hBr
      generalize (Kv.look t key).getD 0 = r at hv ⊢
      clear hK hBr HK
      by_cases hk1 : k < n
      all_goals
        try have hk2 : (200 : Int) ≤ (k : Int) := by omega
        try have hk3 : (n : Int) ≤ (k : Int) := by omega
        try have hk4 : (k : Int) < (n : Int) := by omega
        clear hlt
        go_wp2_with ((with_reducible refine hv.mono ?_); rintro e w5 ⟨rfl, hB5⟩; have HB5 := Lib.hid hB5; clear hB5)
        go_ret
        exact ⟨rfl, below_then HB.out HB.out.size HB5.out⟩
end Go.Proofs.Ytanhibhcmfmeeaa.Ag
