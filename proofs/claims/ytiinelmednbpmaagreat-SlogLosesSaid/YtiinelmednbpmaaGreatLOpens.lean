import Derived.Test.YtiinelmednbpmaaGreatLOpensP
import Derived.Test.YtiinelmednbpmaaGreatLMinor
/- The walk of SlogOpens. -/
namespace Go.Proofs.YtiinelmednbpmaaGreat.Slog
open Go.RowKit Go.Maps Go.Proofs.YtiinelmednbpmaaGreatW.PrintWords Go.Proofs.YtiinelmednbpmaaGreatW.PrintMore Go.Proofs.YtiinelmednbpmaaGreat.Row Go.Proofs.YtiinelmednbpmaaGreat.Cut Go.Proofs.YtiinelmednbpmaaGreat.DiskM Go.Proofs.YtiinelmednbpmaaGreat.Quor Go.Proofs.YtiinelmednbpmaaGreat.Slot
open Go.Proofs.YtiinelmednbpmaaGreat.Crc (KB sameB lists_calls)
theorem at_u8 {w : World} {A : Option Addr} {n : Nat} {l : List Int} (h : (Kd.int .u8).C w A n l) (i : Nat) (hi : i < n) : ∃ ad x, A = some ad ∧ l[i]? = some x ∧ w.cell? (ad.add i) = some (.int .u8 x) := by
  obtain ⟨hl, _, h⟩ := h
  obtain ⟨ad, hA, hc⟩ := h (by omega)
  have hil : i < l.length := by omega
  obtain ⟨cs, _, hk, hat⟩ := hc i (l[i]) (List.getElem?_eq_getElem hil)
  obtain rfl : cs = [.int .u8 l[i]] := hk
  refine ⟨ad, l[i], hA, List.getElem?_eq_getElem hil, ?_⟩
  have := hat 0 _ rfl
  have e1 : (Kd.int .u8).sz = 1 := rfl
  rwa [e1, Nat.mul_one, Nat.add_zero] at this
theorem OS.mono {s : LS} {B B' : Nat} (H : OS s B) (h : B ≤ B') : OS s B' := ⟨H.len, H.cls, H.head, H.cell, H.ch, fun t ht => Nat.le_trans (H.sz t ht) h, H.opn, H.ep, H.ok⟩
theorem set_map (i : Nat) (hi : i < 3) (b : Bool) : (([true, true, true].set i b).map Value.bool) = [Value.bool true, Value.bool true, Value.bool true].set i (Value.bool b) := by
  rcases (by omega : i = 0 ∨ i = 1 ∨ i = 2) with rfl | rfl | rfl <;> rfl
theorem reach_two (i : Nat) (hi : i < 3) (b : Bool) : 2 ≤ reachN ([true, true, true].set i b) 3 := by
  rcases (by omega : i = 0 ∨ i = 1 ∨ i = 2) with rfl | rfl | rfl <;> cases b <;> decide
set_option maxRecDepth 1000000 in
set_option maxHeartbeats 16000000 in
theorem opens_calls (A1 : Option Addr) (c1 : Nat) (l8 : List (List Int)) (A2 : Option Addr) (c2 : Nat) (who : List Int) (w : World) (hK : KB.C w A1 l8.length l8) (hW : (Kd.int .u8).C w A2 who.length who) (hby : ∀ b ∈ l8, ∀ x ∈ b, 0 ≤ x ∧ x ≤ 255) (hbl : ∀ b ∈ l8, b.length ≤ 9223372036854775807) (hwb : ∀ x ∈ who, 0 ≤ x ∧ x ≤ 255) :
    Calls Tryz.prog 4 #[.slice A1 l8.length c1, .slice A2 who.length c2] w fun e w' => e = .returned (.bool true) ∧ Below w.heap.size w w' := by
  have h1 := shown_calls w
  obtain ⟨ll, hll⟩ : ∃ ll, ll = l8.length := ⟨_, rfl⟩
  obtain ⟨wl, hwl⟩ : ∃ wl, wl = who.length := ⟨_, rfl⟩
  have HK := Lib.hid hK; have HW := Lib.hid hW; have HBy := Lib.hid hby; have HBl := Lib.hid hbl; have HLL := Lib.hid hll; have HWL := Lib.hid hwl; have HWB := Lib.hid hwb
  rw [← hll, ← hwl]
  clear hK hW hby hbl hll hwl hwb
  obtain ⟨s1, ho1, hO1, hr1, he1⟩ := os_zero
  have HO1 := Lib.hid (And.intro hO1 (And.intro hr1 he1))
  have HH1 := Lib.hid ho1
  clear hO1 hr1 he1 ho1
  go_enter Tryz.func4, Tryz.ntmps4
  go_wp2_with fail
  refine h1.mono ?_
  rintro e w1 ⟨rfl, B1⟩
  have hnew := lnew_calls (w0 := w) B1 3 (.inr (.inl rfl)) 1048576 (by omega) (by omega)
  clear h1 B1
  go_wp2_with fail
  refine hnew.mono ?_
  rintro e w2 ⟨x, rfl, L0, hb12⟩
  have hba := (Below.refl w2.heap.size w2).alloc (Nat.le_refl _) (.cells #[.bool true, .bool true, .bool true] 4)
  have La := L0.below hba
  have hF1 : Kd.F Kd.bool (w2.alloc (.cells #[.bool true, .bool true, .bool true] 4)) (fun k => ¬ LF x k) (some ⟨w2.heap.size, 0, none⟩) [true, true, true].length [true, true, true] := lit_FB [true, true, true] (heap_alloc_new w2 _) (L0.nlt (.inl (Nat.le_refl _))) (by decide)
  have hop := lopen_calls La (by simp [zeros]) ⟨by show (0 : Int) ≤ 0; omega, by show (0 : Int) ≤ 1000000; omega⟩ _ 3 [true, true, true] hF1
  rw [HH1.out] at hop
  obtain ⟨lg, hlg⟩ : ∃ lg, lg = x.lg := ⟨_, rfl⟩
  rw [← hlg] at hop ⊢
  obtain ⟨ga, hga⟩ : ∃ ga, ga = w2.heap.size := ⟨_, rfl⟩
  have HF1 := Lib.hid (And.intro hF1 hlg)
  clear hnew L0 hb12 hba La hF1 hlg hga
  go_wp2_with fail
  refine hop.mono ?_
  rintro e w3 ⟨x3, rfl, hs3, L3, T3⟩
  simp only at L3
  have hF3 := F_stp HF1.out.1 T3
  have HS3 := Lib.hid (And.intro (hs3.1.trans HF1.out.2.symm) (And.intro L3 hF3))
  generalize w2.heap.size = g2 at HS3 ⊢
  clear hop hs3 L3 T3 hF3 HF1
  go_wp2_with fail
  go_loopw [9] (fun i wx => ∃ (j : Nat) (xk : LB) (sk : LS), j ≤ ll ∧ j ≤ 20 ∧ i = .int .i64 j ∧ xk.lg = lg ∧ Lg w wx xk 1048576 sk ∧ OS sk (10 + 2062 * j) ∧ sk.row.length ≤ j ∧ sk.ep = 1 ∧ Kd.F Kd.bool wx (fun k => ¬ LF xk k) (some ⟨g2, 0, none⟩) [true, true, true].length [true, true, true]) (fun i _ => ll - (intOf i).toNat)
  case atStart => exact ⟨0, x3, s1, Nat.zero_le _, by decide, rfl, HS3.out.1, HS3.out.2.1, HO1.out.1, by rw [HO1.out.2.1]; exact Nat.le_refl _, HO1.out.2.2, HS3.out.2.2⟩
  case round =>
    obtain ⟨j, xk, sk, hj, hj20, rfl, hlk, Lk, hOk, hrk, hek, hFk⟩ := hrel
    rename World => wx
    have hj0 : (0 : Int) ≤ (j : Int) := by omega
    by_cases hlt2 : j < ll ∧ j < 20
    · obtain ⟨hj1, hj2⟩ := hlt2
      have hj1i : (j : Int) < (ll : Int) := by omega
      have hj2i : (j : Int) < 20 := by omega
      obtain ⟨ad, b, Ai, ci, rfl, hb, d0, hci, hCb⟩ := Slot.at_row HK.out j (by rw [← HLL.out]; exact hj1)
      have hbm := List.mem_of_getElem? hb
      have d1 := pw_cell_below Lk.base d0
      have hap := lappend_calls Lk (fun e => by have h := hOk.len; rw [e] at h; simp at h) Ai ci b _ 3 [true, true, true] (Lg.came (Kd.heap_int .u8) Lk hCb) hci (HBy.out b hbm) (HBl.out b hbm) hFk
      have hoa := os_append hOk [true, true, true] (by decide) (by omega) (by omega) (by omega) b
      rw [hlk] at hap
      have HJ := Lib.hid (And.intro hoa (And.intro hrk (And.intro hek hFk)))
      obtain ⟨bl, hbl⟩ : ∃ bl, bl = b.length := ⟨_, rfl⟩
      rw [← hbl] at hap d1
      clear d0 hb hbm hoa hrk hek hFk hCb hci hbl hOk Lk
      go_wp2_with fail
      refine hap.mono ?_
      rintro e w4 ⟨x4, rfl, hs4, L4, T4⟩
      have HF := Lib.hid (And.intro (hs4.1.trans hlk) (And.intro L4 (F_stp HJ.out.2.2.2 T4)))
      clear hs4 L4 T4 hap d1
      go_wp2_with fail
      go_roundw
      case rel =>
        obtain ⟨⟨q1, q2, q3⟩, hrk, hek, _⟩ := HJ.out
        refine ⟨j + 1, x4, _, by omega, by omega, by go_num, HF.out.1, HF.out.2.1, ?_, by omega, by omega, HF.out.2.2⟩
        have e : 10 + 2062 * (j + 1) = 10 + 2062 * j + 2062 := by omega
        rw [e]; exact q1
      case measure => simp only [intOf]; omega
    · have hx3 : ((j : Int) < (ll : Int) ∧ (20 : Int) ≤ (j : Int)) ∨ (ll : Int) ≤ (j : Int) := by omega
      have hrow := row_calls Lk
      rw [hlk] at hrow
      have HJ := Lib.hid (And.intro hlk (And.intro Lk (And.intro hOk (And.intro hrk hek))))
      clear hlt2 hlk Lk hOk hrk hek hFk
      rcases hx3 with ⟨hx3, hx4⟩ | hx3
      all_goals
        go_wp2_with fail
        refine hrow.mono ?_
        rintro e w5 ⟨v5, rfl, hI5⟩
        obtain ⟨A5, c5, rfl⟩ := hI5.slice
        obtain ⟨hlk, Lk, hOk, hrk, hek⟩ := HJ.out
        have L5 := Lk.below hI5.2.1
        have hR5 : RowF w5 w.heap.size (fun q => ¬ LF xk q) (.slice A5 sk.row.length c5) sk.row := (hI5.rowF (ok := fun q => ¬ LF xk q) (fun q hq => Lk.nlt (.inl hq))).mono Lk.base.size (fun _ h => h)
        have hO5 : OS sk (41250 * (0 + 1)) := ⟨hOk.len, hOk.cls, hOk.head, hOk.cell, hOk.ch, fun t ht => by have := hOk.sz t ht; omega, hOk.opn, hOk.ep, hOk.ok⟩
        have hrl20 : sk.row.length ≤ 20 := by omega
        have HS5 := Lib.hid (And.intro hlk (And.intro L5 (And.intro hR5 (And.intro hO5 (And.intro hrl20 hek)))))
        obtain ⟨row0, hrow0⟩ : ∃ row0, row0 = sk.row := ⟨_, rfl⟩
        have HR0 := Lib.hid hrow0
        obtain ⟨n0, hn0⟩ : ∃ n0, n0 = sk.row.length := ⟨_, rfl⟩
        rw [← hn0] at HS5 ⊢
        have HN0 : Hid (row0.length = n0) := Lib.hid (by rw [hrow0, hn0])
        clear hn0 hrow hlk Lk hOk hrk hek L5 hR5 hO5 hrl20 hI5 hrow0
        go_wp2_with fail
        go_loopw [11] (fun i wy => ∃ (p : Nat) (xp : LB) (sp : LS), p ≤ wl ∧ p ≤ 20 ∧ i = .int .i64 p ∧ xp.lg = lg ∧ Lg w wy xp 1048576 sp ∧ RowF wy w.heap.size (fun q => ¬ LF xp q) (.slice A5 n0 c5) row0 ∧ OS sp (41250 * (p + 1)) ∧ sp.row = row0 ∧ sp.ep = 1 + p) (fun i _ => wl - (intOf i).toNat)
        case atStart => exact ⟨0, xk, sk, Nat.zero_le _, by decide, rfl, HS5.out.1, HS5.out.2.1, by rw [HR0.out]; exact HS5.out.2.2.1, HS5.out.2.2.2.1, HR0.out.symm, by rw [HS5.out.2.2.2.2.2]; rfl⟩
        case round =>
          obtain ⟨p, xp, sp, hp, hp20, rfl, hlp, Lp, hRp, hOp, hrp, hep⟩ := hrel
          rename World => wy
          have hp0 : (0 : Int) ≤ (p : Int) := by omega
          by_cases hlt3 : p < wl ∧ p < 20
          · obtain ⟨hp1, hp2⟩ := hlt3
            have hp1i : (p : Int) < (wl : Int) := by omega
            have hp2i : (p : Int) < 20 := by omega
            obtain ⟨aw, y, rfl, hy, y0⟩ := at_u8 HW.out p (by rw [← HWL.out]; exact hp1)
            obtain ⟨hy0, hy1⟩ := HWB.out y (List.mem_of_getElem? hy)
            have y1 := pw_cell_below Lp.base y0
            have HJp := Lib.hid (And.intro hlp (And.intro Lp (And.intro hRp (And.intro hOp (And.intro hrp hep)))))
            clear hlp Lp hRp hOp hrp hep y0 hy
            obtain ⟨i3, hi3⟩ : ∃ i3 : Nat, y % 3 = (i3 : Int) := ⟨(y % 3).toNat, by omega⟩
            have hi3l : i3 < 3 := by omega
            obtain ⟨q2, hq2⟩ : ∃ q2 : Nat, y % 2 = (q2 : Int) := ⟨(y % 2).toNat, by omega⟩
            have hq2l : q2 = 0 ∨ q2 = 1 := by omega
            have y2 : (wy.alloc (.cells #[.bool true, .bool true, .bool true] 4)).cell? (aw.add p) = some (.int .u8 y) := cell_step (World.grownBy_alloc _ _ none) y1 (by simp)
            have hbt := heap_alloc_new wy (.cells #[.bool true, .bool true, .bool true] 4)
            have t0 : (wy.alloc (.cells #[.bool true, .bool true, .bool true] 4)).cell? ⟨wy.heap.size, i3, none⟩ = some (.bool true) := by
              rw [blk_cell hbt]
              rcases (by omega : i3 = 0 ∨ i3 = 1 ∨ i3 = 2) with rfl | rfl | rfl <;> rfl
            have tf := blk_frozen hbt i3
            have hw1 : IntKind.i64.wrap y = y := IntWalk.i64_in _ (by omega)
            have hm3 : y.tmod 3 = (i3 : Int) := by rw [← hi3]; exact Int.tmod_eq_emod_of_nonneg hy0
            have hm2 : y.tmod 2 = (q2 : Int) := by rw [← hq2]; exact Int.tmod_eq_emod_of_nonneg hy0
            have hi3i : (0 : Int) ≤ (i3 : Int) := by omega
            have hi3j : (i3 : Int) < 3 := by omega
            have hi3n : ((i3 : Int)).toNat = i3 := Int.toNat_natCast i3
            have Hq2 := Lib.hid hq2l
            have HT := Lib.hid hbt
            clear hbt hq2l
            rcases Hq2.out with rfl | rfl
            all_goals
              go_wp2_with fail
              go_region
            · obtain ⟨hlp, Lp, hRp, hOp, hrp, hep⟩ := HJp.out
              have hbw := ((Below.refl wy.heap.size wy).alloc (Nat.le_refl _) (.cells ([Value.bool true, Value.bool true, Value.bool true].set i3 (Value.bool true)).toArray 4)).drew
              have L5 := Lp.below hbw
              have hbl5 : (wy.alloc (.cells ([Value.bool true, Value.bool true, Value.bool true].set i3 (Value.bool true)).toArray 4)).drew.heap[wy.heap.size]? = some (.cells (([true, true, true].set i3 true).map Value.bool).toArray 4 (0, 0)) := by
                rw [set_map i3 hi3l true]; exact heap_alloc_new wy _
              have hF5 := lit_FB (ok := fun k => ¬ LF xp k) ([true, true, true].set i3 true) hbl5 (Lp.nlt (.inl (Nat.le_refl _))) (by simp)
              have hrl := Lp.rng.1
              have hr20 : sp.row.length ≤ 20 := by rw [hrp, HN0.out]; exact HS5.out.2.2.2.2.1
              obtain ⟨s', ho', hO', hr', he'⟩ := os_open hOp ([true, true, true].set i3 true) (reach_two i3 hi3l true) (by omega) hrl (by omega)
              have hep5 := lepoch_calls L5
              have hop5 := lopen_calls L5 (fun e => by have h := hOp.len; rw [e] at h; simp at h) (by omega) _ 3 _ hF5
              rw [ho'] at hop5
              have hl3 : ([true, true, true].set i3 true).length = 3 := by simp
              rw [hl3, hlp] at hop5
              rw [hlp, hep] at hep5
              have HP := Lib.hid (And.intro (hRp.below hbw) (And.intro (hO'.mono (B' := 41250 * (p + 1 + 1)) (by omega)) (And.intro (hr'.trans hrp) (And.intro (he'.trans (by rw [hep])) hlp))))
              clear hbw L5 hbl5 hF5 hrl hr20 hO' hr' he' ho' hl3 hlp Lp hRp hOp hrp hep t0 tf y2 y1 hw1 hm3 hm2
              go_wp2_with fail
              refine hep5.mono ?_
              rintro e w6 ⟨rfl, rfl⟩
              clear hep5
              go_wp2_with fail
              refine hop5.mono ?_
              rintro e w7 ⟨x7, rfl, hs7, L7, T7⟩
              simp only at L7
              have hep7 := lepoch_calls L7
              have hrow7 := row_calls L7
              rw [hs7.1, HP.out.2.2.2.2, HP.out.2.2.2.1] at hep7
              rw [hs7.1, HP.out.2.2.2.2, HP.out.2.2.1] at hrow7
              have HQ := Lib.hid (And.intro (hs7.1.trans HP.out.2.2.2.2) (And.intro L7 (HP.out.1.stp T7)))
              clear hop5 hs7 L7 T7
              have hpe : (p : Int) ≤ 20 := by omega
              go_wp2_with fail
              refine hep7.mono ?_
              rintro e w8 ⟨rfl, rfl⟩
              clear hep7
              go_wp2_with fail
              refine hrow7.mono ?_
              rintro e w9 ⟨v9, rfl, hI9⟩
              obtain ⟨A9, c9, hv9, _, _, hC9⟩ := hI9.1.reads
              have hR9 := HQ.out.2.2.below hI9.2.1
              obtain ⟨Av, cv, hv, _, hCv⟩ := hR9.reads
              have hva : A5 = Av := by
                injection hv
              rw [← hva] at hCv
              subst hv9
              have hls := lists_calls _ c9 _ _ c5 _ w9 hC9 hCv
              rw [same_refl, HN0.out] at hls
              rw [HN0.out]
              have L9 := HQ.out.2.1.below hI9.2.1
              have HQ9 := Lib.hid (And.intro L9 hR9)
              clear hrow7 hI9 hC9 hR9 hCv L9 hv hva
              go_wp2_with fail
              refine hls.mono ?_
              rintro e w10 ⟨rfl, hd⟩
              have hb10 := hd.below
              have HQ10 := Lib.hid (And.intro (HQ9.out.1.below hb10) (HQ9.out.2.below hb10))
              clear hls hd hb10
              go_wp2_with fail
              go_roundw
              case rel => exact ⟨p + 1, x7, s', by omega, by omega, by go_num, HQ.out.1, HQ10.out.1, HQ10.out.2, HP.out.2.1, HP.out.2.2.1, by rw [HP.out.2.2.2.1]; omega⟩
              case measure => simp only [intOf]; omega
            · obtain ⟨hlp, Lp, hRp, hOp, hrp, hep⟩ := HJp.out
              have hbw := ((Below.refl wy.heap.size wy).alloc (Nat.le_refl _) (.cells ([Value.bool true, Value.bool true, Value.bool true].set i3 (Value.bool false)).toArray 4)).drew
              have L5 := Lp.below hbw
              have hbl5 : (wy.alloc (.cells ([Value.bool true, Value.bool true, Value.bool true].set i3 (Value.bool false)).toArray 4)).drew.heap[wy.heap.size]? = some (.cells (([true, true, true].set i3 false).map Value.bool).toArray 4 (0, 0)) := by
                rw [set_map i3 hi3l false]; exact heap_alloc_new wy _
              have hF5 := lit_FB (ok := fun k => ¬ LF xp k) ([true, true, true].set i3 false) hbl5 (Lp.nlt (.inl (Nat.le_refl _))) (by simp)
              have hrl := Lp.rng.1
              have hr20 : sp.row.length ≤ 20 := by rw [hrp, HN0.out]; exact HS5.out.2.2.2.2.1
              obtain ⟨s', ho', hO', hr', he'⟩ := os_open hOp ([true, true, true].set i3 false) (reach_two i3 hi3l false) (by omega) hrl (by omega)
              have hep5 := lepoch_calls L5
              have hop5 := lopen_calls L5 (fun e => by have h := hOp.len; rw [e] at h; simp at h) (by omega) _ 3 _ hF5
              rw [ho'] at hop5
              have hl3 : ([true, true, true].set i3 false).length = 3 := by simp
              rw [hl3, hlp] at hop5
              rw [hlp, hep] at hep5
              have HP := Lib.hid (And.intro (hRp.below hbw) (And.intro (hO'.mono (B' := 41250 * (p + 1 + 1)) (by omega)) (And.intro (hr'.trans hrp) (And.intro (he'.trans (by rw [hep])) hlp))))
              clear hbw L5 hbl5 hF5 hrl hr20 hO' hr' he' ho' hl3 hlp Lp hRp hOp hrp hep t0 tf y2 y1 hw1 hm3 hm2
              go_wp2_with fail
              refine hep5.mono ?_
              rintro e w6 ⟨rfl, rfl⟩
              clear hep5
              go_wp2_with fail
              refine hop5.mono ?_
              rintro e w7 ⟨x7, rfl, hs7, L7, T7⟩
              simp only at L7
              have hep7 := lepoch_calls L7
              have hrow7 := row_calls L7
              rw [hs7.1, HP.out.2.2.2.2, HP.out.2.2.2.1] at hep7
              rw [hs7.1, HP.out.2.2.2.2, HP.out.2.2.1] at hrow7
              have HQ := Lib.hid (And.intro (hs7.1.trans HP.out.2.2.2.2) (And.intro L7 (HP.out.1.stp T7)))
              clear hop5 hs7 L7 T7
              have hpe : (p : Int) ≤ 20 := by omega
              go_wp2_with fail
              refine hep7.mono ?_
              rintro e w8 ⟨rfl, rfl⟩
              clear hep7
              go_wp2_with fail
              refine hrow7.mono ?_
              rintro e w9 ⟨v9, rfl, hI9⟩
              obtain ⟨A9, c9, hv9, _, _, hC9⟩ := hI9.1.reads
              have hR9 := HQ.out.2.2.below hI9.2.1
              obtain ⟨Av, cv, hv, _, hCv⟩ := hR9.reads
              have hva : A5 = Av := by
                injection hv
              rw [← hva] at hCv
              subst hv9
              have hls := lists_calls _ c9 _ _ c5 _ w9 hC9 hCv
              rw [same_refl, HN0.out] at hls
              rw [HN0.out]
              have L9 := HQ.out.2.1.below hI9.2.1
              have HQ9 := Lib.hid (And.intro L9 hR9)
              clear hrow7 hI9 hC9 hR9 hCv L9 hv hva
              go_wp2_with fail
              refine hls.mono ?_
              rintro e w10 ⟨rfl, hd⟩
              have hb10 := hd.below
              have HQ10 := Lib.hid (And.intro (HQ9.out.1.below hb10) (HQ9.out.2.below hb10))
              clear hls hd hb10
              go_wp2_with fail
              go_roundw
              case rel => exact ⟨p + 1, x7, s', by omega, by omega, by go_num, HQ.out.1, HQ10.out.1, HQ10.out.2, HP.out.2.1, HP.out.2.2.1, by rw [HP.out.2.2.2.1]; omega⟩
              case measure => simp only [intOf]; omega
          · have hx5 : ((p : Int) < (wl : Int) ∧ (20 : Int) ≤ (p : Int)) ∨ (wl : Int) ≤ (p : Int) := by omega
            have HB := Lib.hid Lp.base
            clear hlt3 hlp Lp hRp hOp hrp hep
            rcases hx5 with ⟨hx5, hx6⟩ | hx5
            all_goals
              go_wp2_with fail
              go_ret
              exact ⟨rfl, HB.out⟩
end Go.Proofs.YtiinelmednbpmaaGreat.Slog
