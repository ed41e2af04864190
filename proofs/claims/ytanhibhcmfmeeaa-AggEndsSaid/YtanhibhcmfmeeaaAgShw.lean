import Derived.Test.YtanhibhcmfmeeaaAgTb
/- The document's example. -/
namespace Go.Proofs.Ytanhibhcmfmeeaa.Ag
open Go.RowKit Go.Proofs.YtanhibhcmfmeeaaW.PrintWords Go.Proofs.YtanhibhcmfmeeaaW.PrintMore Go.Proofs.Ytanhibhcmfmeeaa.Cut Go.Proofs.Ytanhibhcmfmeeaa.Fr Go.Proofs.Ytanhibhcmfmeeaa.SlK Go.Proofs.Ytanhibhcmfmeeaa.Ex
attribute [local go_sem high] eqRec
theorem mayT_yes (t : Int) (h0 : 0 ≤ t) (h1 : t ≤ 1099511627776) : mayT t = true := decide_eq_true ⟨h0, h1⟩
set_option maxHeartbeats 8000000 in
theorem shown_calls (w : World) : Calls Try.prog 9 #[] w fun e w' => e = .returned (.bool true) ∧ Below w.heap.size w w' := by
  have hs := sum_calls w
  go_enter Try.func9, Try.ntmps9
  go_wp2_with fail
  refine hs.mono ?_
  rintro e w1 ⟨b, rfl, hrow, hbs, hB1⟩
  have hn := new_kv (w := w1) (n := 0) (x := sumE) (v := .agg #[.int .i64 6, .slice none 0 0, .int .i64 6, .int .i64 0, .slice (some ⟨b, 0, none⟩) 2 2, .int .i64 0]) ⟨none, 0, 0, some ⟨b, 0, none⟩, 2, rfl, sumV hrow⟩ sum_may
  have HB1 := Lib.hid hB1
  clear hs hrow hbs hB1
  go_wp2_with fail
  refine hn.mono ?_
  rintro e w2 ⟨a, s, rfl, hV, hO, hsa⟩
  have hK : AgK w1 w2 a s 0 sumE [] (.slice none 0 0) := ⟨hV, hO⟩
  have hA1 := apply_kv hK 1 5 0 5 (by decide) (by decide +kernel) (fun _ => by decide)
  have HB2 := Lib.hid (below_then HB1.out HB1.out.size hV.low)
  unfold recV at hA1
  clear hn hV hO hsa hK
  go_wp2_with fail
  refine hA1.mono ?_
  rintro e w3 ⟨sl1, v1, rfl, hR1, hK1, hM1⟩
  obtain ⟨A1, c1, rfl, hc1, _⟩ := Kd.R_reads hR1
  have hB3 : Below w.heap.size w w3 := below_then HB1.out HB1.out.size hK1.vx.low
  have e1 : Kv.putL 1 5 [] = [(1, 5)] := by decide +kernel
  rw [e1] at hK1
  obtain ⟨W3, hW3⟩ : ∃ W, W = w3.alloc (.cells #[.int .i64 1, .int .i64 5, .int .i64 0] 36) := ⟨_, rfl⟩
  have hb3 : Below w3.heap.size w3 W3 := by rw [hW3]; exact below_alloc (Below.refl _ _) _
  have hr3 : W3.heap[w3.heap.size]? = some (.cells #[.int .i64 1, .int .i64 5, .int .i64 0] 36 (0, 0)) := by rw [hW3]; exact (Go.MapKept.heap_alloc w3 _).1
  have hK3 := hK1.below hb3
  have hA2 := apply_kv hK3 1 6 3 11 (by decide) (by decide +kernel) (fun _ => by decide)
  have HW3 := Lib.hid hW3
  have HB3 := Lib.hid (below_then hB3 hB3.size hb3)
  have HR3 := Lib.hid hr3
  have HK3 := Lib.hid hK3
  unfold recV at hA2 ⊢
  clear hR1 hK1 hM1 hB3 hW3 hb3 hr3 hK3 hA1 e1 HB2
  go_upto_region 5 with fail
  rw [← HW3.out]
  go_wp2_with fail
  refine hA2.mono ?_
  rintro e w4 ⟨sl2, v2, rfl, hR2, hK2, hM2⟩
  obtain ⟨A2, c2, rfl, hc2, _⟩ := Kd.R_reads hR2
  have e2 : Kv.putL 1 11 [(1, 5)] = [(1, 11)] := by decide +kernel
  rw [e2] at hK2
  have hr4 := (hM2.keep _ (Array.getElem?_eq_some_iff.1 HR3.out).1 (HK3.out.far HR3.out (by decide) (by decide))).trans HR3.out
  obtain ⟨W4, hW4⟩ : ∃ W, W = w4.alloc (.cells #[.int .i64 1, .int .i64 11, .int .i64 3] 36) := ⟨_, rfl⟩
  have hb4 : Below w4.heap.size w4 W4 := by rw [hW4]; exact below_alloc (Below.refl _ _) _
  have hr5 : W4.heap[w4.heap.size]? = some (.cells #[.int .i64 1, .int .i64 11, .int .i64 3] 36 (0, 0)) := by rw [hW4]; exact (Go.MapKept.heap_alloc w4 _).1
  have hr4' := (hb4.block _ (Array.getElem?_eq_some_iff.1 hr4).1).trans hr4
  have hK4 := hK2.below hb4
  have hb5 : Below W4.heap.size W4 (W4.alloc (.cells (encC (1, 0, 0, 11, false)).toArray 50)) := below_alloc (Below.refl _ _) _
  have hR5 := Kd.R_below (Kd.R_below hR2 hb4) hb5
  have hC1 : K5.C (W4.alloc (.cells (encC (1, 0, 0, 11, false)).toArray 50)) A2 [((1, 0, 0, 11, false) : T5)].length [((1, 0, 0, 11, false) : T5)] := by
    obtain ⟨A', c', e, _, h⟩ := Kd.R_reads hR5
    injection e with e _ _
    rw [e]; exact h
  have hC2 : K5.C (W4.alloc (.cells (encC (1, 0, 0, 11, false)).toArray 50)) (some ⟨W4.heap.size, 0, none⟩) [((1, 0, 0, 11, false) : T5)].length [((1, 0, 0, 11, false) : T5)] := by
    obtain ⟨A', c', e, _, h⟩ := Kd.R_reads (row5_one (own_lit5 W4 0 (1, 0, 0, 11, false) (Nat.zero_le _)))
    injection e with e _ _
    rw [e]; exact h
  have hch := changes_calls (c := c2) (d := 1) hC1 hc2 hC2 (Nat.le_refl _) (by decide)
  rw [decide_eq_true rfl] at hch
  simp only [List.length_singleton] at hch
  have hvl := fun q => value_k ((hK4.below hb5).below (w' := (W4.alloc (.cells (encC (1, 0, 0, 11, false)).toArray 50)).drewN q) (pw_below_drewN (Below.refl _ _) q)) 1
  have e3 : (Kv.look [(1, 11)] 1).getD 0 = 11 := by decide +kernel
  rw [e3] at hvl
  have hB4 : Below w.heap.size w W4 := by
    have h1 := below_then HB1.out HB1.out.size hK2.vx.low
    exact below_then h1 h1.size hb4
  have d1 : W4.cell? ⟨w3.heap.size, 1, none⟩ = some (.int .i64 5) := (blk_cell hr4' 1).trans rfl
  have g0 : W4.cell? ⟨w4.heap.size, 0, none⟩ = some (.int .i64 1) := (blk_cell hr5 0).trans rfl
  have g1 : W4.cell? ⟨w4.heap.size, 1, none⟩ = some (.int .i64 11) := (blk_cell hr5 1).trans rfl
  have g2 : W4.cell? ⟨w4.heap.size, 2, none⟩ = some (.int .i64 3) := (blk_cell hr5 2).trans rfl
  have HW4 := Lib.hid hW4; have HB4 := Lib.hid hB4; have HB5 := Lib.hid hb5
  unfold encC at hch hvl
  unfold recV
  clear hW4 hB4 hb5 hR2 hK2 hM2 hr4 hr4' hr5 hK4 hR5 hC1 hC2 hb4 e2 e3 HB3 HR3 HK3 HW3 hA2
  go_upto_region 6 with fail
  rw [← HW4.out]
  go_wp2_with (first
    | (go_at_call 14; (with_reducible refine hch.mono ?_); rintro e w5 ⟨rfl, q, rfl⟩)
    | (go_at_call 13; (with_reducible refine (hvl _).mono ?_); rintro e w6 ⟨rfl, hB6⟩))
  go_ret
  exact ⟨rfl, below_then (below_then (below_then HB4.out HB4.out.size HB5.out) (Nat.le_trans HB4.out.size HB5.out.size) (pw_below_drewN (Below.refl _ _) _)) (Nat.le_trans HB4.out.size HB5.out.size) hB6⟩
end Go.Proofs.Ytanhibhcmfmeeaa.Ag
