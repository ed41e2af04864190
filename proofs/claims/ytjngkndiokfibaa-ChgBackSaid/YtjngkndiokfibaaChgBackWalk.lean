import Derived.Test.YtjngkndiokfibaaPChgBackx3
import Derived.Test.YtjngkndiokfibaaPChgBackx4
import Derived.Test.YtjngkndiokfibaaPChgBackx5
import Derived.Test.YtjngkndiokfibaaChgFew
import Derived.Lib.Hide
import Derived.Test.YtjngkndiokfibaaCut
import Derived.Outline
import Derived.StillTailTactics
import Derived.Deep.RegionWith
/- The walk of ChgBack. -/
namespace Go.Proofs.Ytjngkndiokfibaa.ChgBackWalk
open Go.RowKit Go.Proofs.YtjngkndiokfibaaW.PrintWords Go.Proofs.YtjngkndiokfibaaW.PrintLast Go.Proofs.YtjngkndiokfibaaW.PrintMore Go.Proofs.Ytjngkndiokfibaa.PChgBack Go.Proofs.Ytjngkndiokfibaa.ChgFew Go.Proofs.Ytjngkndiokfibaa.Cut

set_option maxHeartbeats 1000000 in
theorem walk_none (k : Nat) (A : Option Addr) (c : Nat) (l L : List S23) (recs : List S57) (dels : List Bool) (wh : Int) (w : World) (hK : Kd.C k23 w A l.length l) (hc : l.length ≤ c)
    (h1 : tidemilllaw15_shown.f k = some true) (hl : L = l.take 300) (hl0 : L.length = 0) (h2 : tidemilllaw15_all.f k L = some (recs, dels)) (h3 : chg_Changes.f k recs dels = some (L, 0)) (h4 : tidemillref12_Changes.f k L L = some true) :
    Calls Try.prog 4 #[.slice A l.length c, .int .u16 wh] w fun e w' => e = .returned (.bool true) ∧ Below w.heap.size w w' := by
  have H1 := Lib.hid h1; have H2 := Lib.hid h2; have H3 := Lib.hid h3; have H4 := Lib.hid h4; have HL := Lib.hid hl
  have hm : l.length ≤ 9223372036854775807 := hK.2.1
  have hlc : L.length ≤ c := by rw [hl, List.length_take]; omega
  have HK := Lib.hid (by rw [hl]; exact Kd.C_take (m := min 300 l.length) hK (by omega) |> fun h => by rw [← List.take_take, List.take_length] at h; exact h : Kd.C k23 w A L.length L)
  have HZ := Lib.hid hl0
  clear h1 h2 h3 h4 hl hK hl0
  go_enter Try.func4, Try.ntmps4
  go_wp2_with fail
  refine (tidemilllaw15_shown.calls k true _ H1.out).mono ?_
  rintro e w1 ⟨rfl, hb1⟩
  go_wp2_with fail
  (with_reducible refine (few l L HL.out A c _ hc hm).mono ?_)
  rintro e w' ⟨rfl, rfl⟩
  go_wp2_with fail
  have HK1 := Lib.hid (Kd.C_below HK.out hb1)
  (with_reducible refine (tidemilllaw15_all.calls k _ _ L recs dels _ HK1.out hlc H2.out).mono ?_)
  rintro e w2 ⟨v0, v1, rfl, hr0, hr1, hb2⟩
  go_wp2_with fail
  obtain ⟨A0, c0, rfl, hc0, hC0⟩ := Kd.R_reads hr0
  obtain ⟨A1, c1, rfl, hc1, hC1⟩ := Kd.R_reads hr1
  (with_reducible refine (chg_Changes.calls k _ _ recs _ _ dels L 0 _ hC0 hc0 hC1 hc1 H3.out).mono ?_)
  rintro e w3 ⟨v3, rfl, hr3, hb3⟩
  obtain ⟨A3, c3, rfl, hc3, hC3⟩ := Kd.R_reads hr3
  go_wp2_with fail
  have HK2 := Lib.hid (Kd.C_below (Kd.C_below HK1.out hb2) hb3)
  (with_reducible refine (tidemillref12_Changes.calls k _ _ L _ _ L true _ HK2.out hlc hC3 hc3 H4.out).mono ?_)
  rintro e w4 ⟨rfl, hd4⟩
  have hz : (L.length : Int) == 0 := by simp [HZ.out]
  have hz' : (L.length == 0) = true := by simp [HZ.out]
  go_wp2_with fail
  go_ret
  exact ⟨rfl, below_step (below_step (below_step hb1 hb2) hb3) hd4.below⟩
set_option maxHeartbeats 1000000 in
theorem walk_some (k : Nat) (A : Option Addr) (c : Nat) (l L : List S23) (recs : List S57) (dels : List Bool) (wh : Int) (w : World) (hK : Kd.C k23 w A l.length l) (hc : l.length ≤ c)
    (h1 : tidemilllaw15_shown.f k = some true) (hl : L = l.take 300) (hl0 : 0 < L.length) (hwh0 : 0 ≤ wh) (hwh1 : wh < 65536) (hrl : recs.length = 2 * L.length) (hdl : dels.length = 2 * L.length) (hL300 : L.length ≤ 300) (h5 : chg_Changes.f k (recs.drop 1) (dels.drop 1) = some ([], 5)) (h6 : chg_Changes.f k recs (dels.drop 1) = some ([], 5)) (h7 : chg_Changes.f k recs (dels.set (2 * (wh % L.length)).toNat true) = some ([], 5)) (h2 : tidemilllaw15_all.f k L = some (recs, dels)) (h3 : chg_Changes.f k recs dels = some (L, 0)) (h4 : tidemillref12_Changes.f k L L = some true) :
    Calls Try.prog 4 #[.slice A l.length c, .int .u16 wh] w fun e w' => e = .returned (.bool true) ∧ Below w.heap.size w w' := by
  have H1 := Lib.hid h1; have H2 := Lib.hid h2; have H3 := Lib.hid h3; have H4 := Lib.hid h4; have HL := Lib.hid hl
  have hm : l.length ≤ 9223372036854775807 := hK.2.1
  have hlc : L.length ≤ c := by rw [hl, List.length_take]; omega
  have HK := Lib.hid (by rw [hl]; exact Kd.C_take (m := min 300 l.length) hK (by omega) |> fun h => by rw [← List.take_take, List.take_length] at h; exact h : Kd.C k23 w A L.length L)
  have H5 := Lib.hid h5; have H6 := Lib.hid h6; have H7 := Lib.hid h7; have HR := Lib.hid hrl; have HD := Lib.hid hdl
  clear h1 h2 h3 h4 hl hK h5 h6 h7 hrl hdl
  go_enter Try.func4, Try.ntmps4
  go_wp2_with fail
  refine (tidemilllaw15_shown.calls k true _ H1.out).mono ?_
  rintro e w1 ⟨rfl, hb1⟩
  go_wp2_with fail
  (with_reducible refine (few l L HL.out A c _ hc hm).mono ?_)
  rintro e w' ⟨rfl, rfl⟩
  go_wp2_with fail
  have HK1 := Lib.hid (Kd.C_below HK.out hb1)
  (with_reducible refine (tidemilllaw15_all.calls k _ _ L recs dels _ HK1.out hlc H2.out).mono ?_)
  rintro e w2 ⟨v0, v1, rfl, hr0, hr1, hb2⟩
  go_wp2_with fail
  obtain ⟨A0, c0, rfl, hc0, hC0⟩ := Kd.R_reads hr0
  obtain ⟨A1, c1, rfl, hc1, hC1⟩ := Kd.R_reads hr1
  (with_reducible refine (chg_Changes.calls k _ _ recs _ _ dels L 0 _ hC0 hc0 hC1 hc1 H3.out).mono ?_)
  rintro e w3 ⟨v3, rfl, hr3, hb3⟩
  obtain ⟨A3, c3, rfl, hc3, hC3⟩ := Kd.R_reads hr3
  go_wp2_with fail
  have HK2 := Lib.hid (Kd.C_below (Kd.C_below HK1.out hb2) hb3)
  (with_reducible refine (tidemillref12_Changes.calls k _ _ L _ _ L true _ HK2.out hlc hC3 hc3 H4.out).mono ?_)
  rintro e w4 ⟨rfl, hd4⟩
  have hz : ((L.length : Int) == 0) = false := beq_eq_false_iff_ne.2 (by omega)
  have hz' : (L.length == 0) = false := beq_eq_false_iff_ne.2 (by omega)
  have hrl : (recs.length : Int) = 2 * (L.length : Int) := by have := HR.out; omega
  have hdl : (dels.length : Int) = 2 * (L.length : Int) := by have := HD.out; omega
  have q1 : ((recs.length : Int) != (2 * (L.length : Int))) = false := by simp [hrl]
  have q2 : ((dels.length : Int) != (recs.length : Int)) = false := by simp [hrl, hdl]
  clear hrl hdl
  obtain ⟨A0', R1, hR1, hD0, hd0, hcut0⟩ := tail_cut (P := Try.prog) (d := k57) 24 57 .i64 Try.underlying24 info57 rfl hC0 hc0 1 1 rfl (by have := HR.out; omega)
  obtain ⟨A1', D1, hDD1, hD1, hd1, hcut1⟩ := tail_cut (P := Try.prog) (d := Kd.bool) 25 4 .i64 Try.underlying25 info4 rfl hC1 hc1 1 1 rfl (by have := HD.out; omega)
  have H5' : Hid (chg_Changes.f k R1 D1 = some ([], 5)) := Lib.hid (by rw [hR1, hDD1]; exact H5.out)
  have H6' : Hid (chg_Changes.f k recs D1 = some ([], 5)) := Lib.hid (by rw [hDD1]; exact H6.out)
  clear hR1 hDD1
  go_wp2_with fail
  go_region_with (go_at_call 13; (with_reducible refine (chg_Changes.calls k _ _ R1 _ _ D1 [] 5 _ (Kd.C_below (Kd.C_below (Kd.C_below hD0 hb3) hd4.below) (Below.refl _ _).drew) hd0 (Kd.C_below (Kd.C_below (Kd.C_below hD1 hb3) hd4.below) (Below.refl _ _).drew) hd1 H5'.out).mono ?_); rintro e w5 ⟨v5, rfl, hr5, hb5⟩)
  go_wp2_with fail
  have b4 : Below w2.heap.size w2 w5 := below_step (below_step (below_step hb3 hd4.below) (Below.refl _ _).drew) hb5
  (with_reducible refine (chg_Changes.calls k _ _ recs _ _ D1 [] 5 _ (Kd.C_below hC0 b4) hc0 (Kd.C_below hD1 b4) hd1 H6'.out).mono ?_)
  rintro e w6 ⟨v6, rfl, hr6, hb6⟩
  have b6 : Below w2.heap.size w2 w6 := below_step b4 hb6
  have g1 : 0 ≤ wh % (L.length : Int) := Int.emod_nonneg _ (by omega)
  have g2 : wh % (L.length : Int) < (L.length : Int) := Int.emod_lt_of_pos _ (by omega)
  obtain ⟨g, hg, hgb, _, _⟩ := own_row hr1 (by have := HD.out; omega)
  subst hg
  have hr1' := Kd.R_below hr1 b6
  obtain ⟨hcell, hfz⟩ := Kd.R_cell false hr1' (2 * (wh % (L.length : Int))) (by omega) (by have := HD.out; omega)
  have hi : 2 * (wh % (L.length : Int)) < (dels.length : Int) := by have := HD.out; omega
  go_wp2_with fail
  obtain ⟨cells, hcells⟩ : ∃ cells, w6.heap[g]? = some (.cells cells 4 (0, 0)) := own_typed (Kd.own_of_R hr1') g rfl
  have hr0' := Kd.R_set (Kd.R_below hr0 b6) hcells (by decide) (2 * (wh % (L.length : Int))).toNat (.bool true)
  obtain ⟨A0'', c0'', he0, hc0'', hC0''⟩ := Kd.R_reads hr0'
  injection he0 with he1 _ he3
  obtain ⟨hr1s, _⟩ := Kd.R_put hr1' (2 * (wh % (L.length : Int))) true
  obtain ⟨D2, hD2⟩ : ∃ D2, D2 = dels.set (2 * (wh % (L.length : Int))).toNat true := ⟨_, rfl⟩
  have hDl : dels.length = D2.length := by rw [hD2, List.length_set]
  rw [← hD2] at hr1s
  obtain ⟨A1'', c1'', he4, hc1'', hC1''⟩ := Kd.R_reads hr1s
  injection he4 with he5 _ he6
  have hC1b : Kd.bool.C (w6.setCell ⟨g, (2 * (wh % (L.length : Int))).toNat, none⟩ (.bool true)) A1'' D2.length D2 := hC1''
  have H7' : chg_Changes.f k recs D2 = some ([], 5) := by rw [hD2]; exact H7.out
  rw [hDl] at hc1 ⊢
  rw [he1, he3, he5, he6]
  (with_reducible refine (chg_Changes.calls k _ _ recs _ _ D2 [] 5 _ hC0'' hc0'' hC1b hc1'' H7').mono ?_)
  rintro e w7 ⟨v7, rfl, hr7, hb7⟩
  have b7 : Below w.heap.size w w7 := below_step (below_set (below_step (below_step hb1 hb2) b6) (by have := hb1.size; omega)) hb7
  clear he1 he3 he5 he6 hDl hD2
  go_wp2_with fail
  go_ret
  exact ⟨rfl, b7⟩
end Go.Proofs.Ytjngkndiokfibaa.ChgBackWalk
