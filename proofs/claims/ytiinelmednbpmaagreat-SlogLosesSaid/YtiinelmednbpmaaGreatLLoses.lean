import Derived.Test.YtiinelmednbpmaaGreatLKept
/- The walk of SlogLoses. -/
namespace Go.Proofs.YtiinelmednbpmaaGreat.Slog
open Go.RowKit Go.Maps Go.Proofs.YtiinelmednbpmaaGreatW.PrintWords Go.Proofs.YtiinelmednbpmaaGreatW.PrintMore Go.Proofs.YtiinelmednbpmaaGreat.Row Go.Proofs.YtiinelmednbpmaaGreat.Cut Go.Proofs.YtiinelmednbpmaaGreat.DiskM Go.Proofs.YtiinelmednbpmaaGreat.Quor Go.Proofs.YtiinelmednbpmaaGreat.Slot
open Go.Proofs.YtiinelmednbpmaaGreat.Crc (KB sameB lists_calls)
set_option maxRecDepth 1000000 in
set_option maxHeartbeats 16000000 in
theorem loses_calls (A1 : Option Addr) (c1 : Nat) (l8 : List (List Int)) (y : Int) (hy0 : 0 ≤ y) (_hy1 : y ≤ 255) (w : World) (hK : KB.C w A1 l8.length l8) (hby : ∀ b ∈ l8, ∀ x ∈ b, 0 ≤ x ∧ x ≤ 255) (hbl : ∀ b ∈ l8, b.length ≤ 9223372036854775807) :
    Calls Tryz.prog 5 #[.slice A1 l8.length c1, .int .u8 y] w fun e w' => e = .returned (.bool true) ∧ Below w.heap.size w w' := by
  have h1 := shown_calls w
  obtain ⟨ll, hll⟩ : ∃ ll, ll = l8.length := ⟨_, rfl⟩
  have HK := Lib.hid hK; have HBy := Lib.hid hby; have HBl := Lib.hid hbl; have HLL := Lib.hid hll
  obtain ⟨i3, hi3⟩ : ∃ i3 : Nat, y % 3 = (i3 : Int) := ⟨(y % 3).toNat, by omega⟩
  have hi3l : i3 < 3 := by omega
  obtain ⟨j3, hj3⟩ : ∃ j3 : Nat, ((i3 : Int) + 1) % 3 = (j3 : Int) := ⟨(((i3 : Int) + 1) % 3).toNat, by omega⟩
  have hj3l : j3 < 3 := by omega
  have HJ3 : Hid ((i3 = 0 ∧ j3 = 1) ∨ (i3 = 1 ∧ j3 = 2) ∨ (i3 = 2 ∧ j3 = 0)) := Lib.hid (by omega)
  have hm3 : y.tmod 3 = (i3 : Int) := by rw [← hi3]; exact Int.tmod_eq_emod_of_nonneg hy0
  have hm4 : ((i3 : Int) + 1).tmod 3 = (j3 : Int) := by rw [← hj3]; exact Int.tmod_eq_emod_of_nonneg (by omega)
  have hi3i : (0 : Int) ≤ (i3 : Int) := by omega
  have hi3j : (i3 : Int) < 3 := by omega
  have hj3i : (0 : Int) ≤ (j3 : Int) := by omega
  have hj3j : (j3 : Int) < 3 := by omega
  rw [← hll]
  clear hK hby hbl hll
  obtain ⟨s1, ho1, hO1, hr1, he1⟩ := os_zero
  have HO1 := Lib.hid (And.intro hO1 (And.intro hr1 he1))
  have HH1 := Lib.hid ho1
  clear hO1 hr1 he1 ho1
  go_enter Tryz.func5, Tryz.ntmps5
  go_wp2_with fail
  refine h1.mono ?_
  rintro e w1 ⟨rfl, B1⟩
  have hnew := lnew_calls (w0 := w) B1 3 (.inr (.inl rfl)) 1048576 (by omega) (by omega)
  clear h1 B1
  go_wp2_with fail
  refine hnew.mono ?_
  rintro e w2 ⟨x, rfl, L0, hb12⟩
  have hba := (Below.refl w2.heap.size w2).alloc (Nat.le_refl _) (.cells #[.bool true, .bool true, .bool true] 4)
  have La := L0.below hba
  have hB1 : Bk (w2.alloc (.cells #[.bool true, .bool true, .bool true] 4)) x w2.heap.size [true, true, true] := ⟨heap_alloc_new w2 _, L0.nlt (.inl (Nat.le_refl _))⟩
  have hop := lopen_calls La (by simp [zeros]) ⟨by show (0 : Int) ≤ 0; omega, by show (0 : Int) ≤ 1000000; omega⟩ _ 3 [true, true, true] (hB1.F (by decide))
  rw [HH1.out] at hop
  obtain ⟨lg, hlg⟩ : ∃ lg, lg = x.lg := ⟨_, rfl⟩
  rw [← hlg] at hop ⊢
  have hlow := L0.base.size
  have HF1 := Lib.hid (And.intro hB1 (And.intro hlg hlow))
  clear hnew L0 hb12 hba La hB1 hlg hlow
  go_wp2_with fail
  refine hop.mono ?_
  rintro e w3 ⟨x3, rfl, hs3, L3, T3⟩
  simp only at L3
  have hB3 := HF1.out.1.stp T3
  have HS3 := Lib.hid (And.intro (hs3.1.trans HF1.out.2.1.symm) (And.intro L3 (And.intro hB3 HF1.out.2.2)))
  generalize w2.heap.size = g2 at HS3 ⊢
  clear hop hs3 L3 T3 hB3 HF1
  go_wp2_with fail
  go_loopw [9] (fun i wx => ∃ (j : Nat) (xk : LB) (sk : LS), j ≤ ll ∧ j ≤ 30 ∧ i = .int .i64 j ∧ xk.lg = lg ∧ Lg w wx xk 1048576 sk ∧ OS sk (10 + 2062 * j) ∧ Full sk ∧ sk.row.length ≤ j ∧ sk.ep = 1 ∧ Bk wx xk g2 [true, true, true]) (fun i _ => ll - (intOf i).toNat)
  case atStart => exact ⟨0, x3, s1, Nat.zero_le _, by decide, rfl, HS3.out.1, HS3.out.2.1, HO1.out.1, fun a v hv => by rw [HO1.out.2.1] at hv; simp at hv, by rw [HO1.out.2.1]; exact Nat.le_refl _, HO1.out.2.2, HS3.out.2.2.1⟩
  case round =>
    obtain ⟨j, xk, sk, hj, hj20, rfl, hlk, Lk, hOk, hFu, hrk, hek, hFk⟩ := hrel
    rename World => wx
    have hj0 : (0 : Int) ≤ (j : Int) := by omega
    by_cases hlt2 : j < ll ∧ j < 30
    · obtain ⟨hj1, hj2⟩ := hlt2
      have hj1i : (j : Int) < (ll : Int) := by omega
      have hj2i : (j : Int) < 30 := by omega
      obtain ⟨ad, b, Ai, ci, rfl, hb, d0, hci, hCb⟩ := Slot.at_row HK.out j (by rw [← HLL.out]; exact hj1)
      have hbm := List.mem_of_getElem? hb
      have d1 := pw_cell_below Lk.base d0
      have hap := lappend_calls Lk (fun e => by have h := hOk.len; rw [e] at h; simp at h) Ai ci b _ 3 [true, true, true] (Lg.came (Kd.heap_int .u8) Lk hCb) hci (HBy.out b hbm) (HBl.out b hbm) (hFk.F (by decide))
      have hoa := os_append hOk [true, true, true] (by decide) (by omega) (by omega) (by omega) b
      have hfa := full_append hOk hFu (by omega) (by omega) (by omega) b
      rw [hlk] at hap
      have HJ := Lib.hid (And.intro hoa (And.intro hrk (And.intro hek (And.intro hFk hfa))))
      obtain ⟨bl, hbl⟩ : ∃ bl, bl = b.length := ⟨_, rfl⟩
      rw [← hbl] at hap d1
      clear d0 hb hbm hoa hrk hek hFk hCb hci hbl hOk Lk hFu hfa
      go_wp2_with fail
      refine hap.mono ?_
      rintro e w4 ⟨x4, rfl, hs4, L4, T4⟩
      have HF := Lib.hid (And.intro (hs4.1.trans hlk) (And.intro L4 (HJ.out.2.2.2.1.stp T4)))
      clear hs4 L4 T4 hap d1
      go_wp2_with fail
      go_roundw
      case rel =>
        obtain ⟨⟨q1, q2, q3⟩, hrk, hek, _, hfa⟩ := HJ.out
        refine ⟨j + 1, x4, _, by omega, by omega, by go_num, HF.out.1, HF.out.2.1, ?_, hfa, by omega, by omega, HF.out.2.2⟩
        have e : 10 + 2062 * (j + 1) = 10 + 2062 * j + 2062 := by omega
        rw [e]; exact q1
      case measure => simp only [intOf]; omega
    · have hx3 : ((j : Int) < (ll : Int) ∧ (30 : Int) ≤ (j : Int)) ∨ (ll : Int) ≤ (j : Int) := by omega
      have hrow := row_calls Lk
      rw [hlk] at hrow
      have HJ := Lib.hid (And.intro hlk (And.intro Lk (And.intro hOk (And.intro hFu (And.intro hrk (And.intro hek hFk))))))
      clear hlt2 hlk Lk hOk hrk hek hFk hFu
      rcases hx3 with ⟨hx3, hx4⟩ | hx3
      all_goals
        go_wp2_with fail
        refine hrow.mono ?_
        rintro e w5 ⟨v5, rfl, hI5⟩
        obtain ⟨A5, c5, rfl⟩ := hI5.slice
        obtain ⟨hlk, Lk, hOk, hFu, hrk, hek, hFk⟩ := HJ.out
        have hK5 := hI5.rk Lk
        have L5 := Lk.below hI5.2.1
        have hB5 := hFk.below hI5.2.1
        have hlo := llose_calls L5 (i := i3) (by rw [hOk.len]; exact hi3l)
        have hOl := os_lose hOk hFu i3 hi3l
        rw [hlk] at hlo
        have HQ5 := Lib.hid (And.intro hOl (And.intro hrk (And.intro hek (And.intro hK5 (And.intro hB5 hlk)))))
        clear hrow hlk Lk hOk hFu hrk hek hFk hK5 L5 hB5 hOl hI5
        go_wp2_with fail
        refine hlo.mono ?_
        rintro e w6 ⟨x6, rfl, hx6, L6, T6⟩
        have hlow6 := L6.base.size
        have hba6 := (Below.refl w6.heap.size w6).alloc (Nat.le_refl _) (.cells ([Value.bool true, Value.bool true, Value.bool true].set i3 (Value.bool false)).toArray 4)
        have hbl6 : (w6.alloc (.cells ([Value.bool true, Value.bool true, Value.bool true].set i3 (Value.bool false)).toArray 4)).heap[w6.heap.size]? = some (.cells (([true, true, true].set i3 false).map Value.bool).toArray 4 (0, 0)) := by
          rw [set_map i3 hi3l false]; exact heap_alloc_new w6 _
        have hT6 : Bk (w6.alloc (.cells ([Value.bool true, Value.bool true, Value.bool true].set i3 (Value.bool false)).toArray 4)) x6 w6.heap.size ([true, true, true].set i3 false) := ⟨hbl6, L6.nlt (.inl (Nat.le_refl _))⟩
        have hbt := heap_alloc_new w6 (.cells #[.bool true, .bool true, .bool true] 4)
        have t0 : (w6.alloc (.cells #[.bool true, .bool true, .bool true] 4)).cell? ⟨w6.heap.size, i3, none⟩ = some (.bool true) := by
          rw [blk_cell hbt]
          rcases (by omega : i3 = 0 ∨ i3 = 1 ∨ i3 = 2) with rfl | rfl | rfl <;> rfl
        have tf := blk_frozen hbt i3
        have hlg6 := hx6.trans HQ5.out.2.2.2.2.2
        obtain ⟨s7, ho7, hO7, hr7, he7⟩ := os_open HQ5.out.1 ([true, true, true].set i3 false) (reach_two i3 hi3l false) (by simp only; have := HQ5.out.2.2.1; omega) (by simp only; have := HQ5.out.2.1; omega) (by simp only; have := HQ5.out.2.1; omega)
        simp only at hr7 he7
        have hop7 := lopen_calls (L6.below hba6) (fun e => by have h := HQ5.out.1.len; rw [e] at h; simp at h) (by simp only; have := HQ5.out.2.2.1; omega) _ 3 _ (hT6.F (by simp))
        rw [ho7] at hop7
        have hl3 : ([true, true, true].set i3 false).length = 3 := by simp
        rw [hl3, hlg6] at hop7
        have HQ6 := Lib.hid (And.intro hO7 (And.intro hr7 (And.intro he7 (And.intro ((HQ5.out.2.2.2.1.stp T6).below hba6) (And.intro ((HQ5.out.2.2.2.2.1.stp T6).below hba6) (And.intro hT6 (And.intro hlg6 (And.intro hlow6 T6.size))))))))
        clear hlo hx6 L6 T6 hlow6 hba6 hbl6 hT6 hbt hlg6 hO7 ho7 hr7 he7 hl3
        go_wp2_with fail
        refine hop7.mono ?_
        rintro e w7 ⟨x7, rfl, hs7, L7, T7⟩
        simp only at L7
        obtain ⟨hO7, hr7, he7, hK6, hB6, hT6, hlg6, hlow6, hle6⟩ := HQ6.out
        have hlg7 := hs7.1.trans hlg6
        have hK7 := hK6.stp T7
        have hB7 := hB6.stp T7
        have hT7 := hT6.stp T7
        have hrow7 := row_calls L7
        rw [hlg7] at hrow7
        have hg2 := (Array.getElem?_eq_some_iff.1 HQ5.out.2.2.2.2.1.1).1
        obtain ⟨b2, hb2⟩ : ∃ b2, b2 = w6.heap.size := ⟨_, rfl⟩
        rw [← hb2] at hT7 hlow6 hle6 ⊢
        have HQ7 := Lib.hid (And.intro hK7 (And.intro hB7 (And.intro hT7 (And.intro hlg7 (And.intro hlow6 (And.intro hle6 (And.intro L7 (show g2 ≠ b2 by omega))))))))
        clear hop7 hs7 L7 T7 hO7 hr7 he7 hK6 hB6 hT6 hlg6 hlow6 hle6 hlg7 hK7 hB7 hT7 hg2 hb2 t0 tf
        go_wp2_with fail
        refine hrow7.mono ?_
        rintro e w8 ⟨v8, rfl, hI8⟩
        obtain ⟨A8, c8, rfl⟩ := hI8.slice
        obtain ⟨hK7, hB7, hT7, hlg7, hlow6, hle6, L7, hne⟩ := HQ7.out
        have hKa := hI8.rk L7
        have hK8 := hK7.below hI8.2.1
        have hB8 := hB7.below hI8.2.1
        have hT8 := hT7.below hI8.2.1
        have hb2w : b2 < w7.heap.size := (Array.getElem?_eq_some_iff.1 hT7.1).1
        have hO7 := HQ6.out.1
        have hr7 := HQ6.out.2.1
        have he7 := HQ6.out.2.2.1
        have hrk := HQ5.out.2.1
        have hek := HQ5.out.2.2.1
        rw [hek] at he7
        obtain ⟨s9, ho9, hO9, hr9, he9⟩ := os_open hO7 [true, true, true] (by decide) (by omega) (by rw [hr7]; omega) (by rw [hr7]; omega)
        have hop9 := lopen_calls (L7.below hI8.2.1) (fun e => by have h := hO7.len; rw [e] at h; simp at h) (by omega) _ 3 _ (hB8.F (by decide))
        rw [ho9, hlg7] at hop9
        have HQ8 := Lib.hid (And.intro hKa (And.intro hK8 (And.intro hB8 (And.intro hT8 (And.intro hb2w (And.intro hO9 (And.intro (hr9.trans hr7) (he9.trans (by rw [he7])))))))))
        clear hrow7 hI8 hK7 hB7 hT7 hlg7 hlow6 hle6 L7 hne hKa hK8 hB8 hT8 hb2w hO7 hr7 he7 hrk hek ho9 hO9 hr9 he9
        go_wp2_with fail
        refine hop9.mono ?_
        rintro e w9 ⟨x9, rfl, hs9, L9, T9⟩
        simp only at L9
        have hlg9 := hs9.1.trans HQ7.out.2.2.2.1
        have hT9 := HQ8.out.2.2.2.1.stp T9
        have hlow6 := HQ7.out.2.2.2.2.1
        have q1 := hT9.cell i3 (by simp; exact hi3l)
        have hT9a := hT9.set i3 true
        have L9a := L9.bset hT9 hlow6 i3 (.bool true)
        have q2 := hT9a.cell j3 (by simp; exact hj3l)
        have hT9b := hT9a.set j3 false
        have L9b := L9a.bset hT9a hlow6 j3 (.bool false)
        have hKa9 := ((HQ8.out.1.stp T9).set (g := b2) (i := i3) (u := .bool true) (.inl HQ8.out.2.2.2.2.1)).set (g := b2) (i := j3) (u := .bool false) (.inl HQ8.out.2.2.2.2.1)
        have hKw9 := ((HQ8.out.2.1.stp T9).set (g := b2) (i := i3) (u := .bool true) (.inr HQ7.out.2.2.2.2.2.1)).set (g := b2) (i := j3) (u := .bool false) (.inr HQ7.out.2.2.2.2.2.1)
        have hrch : 2 ≤ reachN ((([true, true, true].set i3 false).set i3 true).set j3 false) 3 := by
          rcases HJ3.out with ⟨rfl, rfl⟩ | ⟨rfl, rfl⟩ | ⟨rfl, rfl⟩ <;> decide
        have hO9 := HQ8.out.2.2.2.2.2.1
        have hr9 := HQ8.out.2.2.2.2.2.2.1
        have he9 := HQ8.out.2.2.2.2.2.2.2
        have hr7 := HQ6.out.2.1
        have hrk := HQ5.out.2.1
        have hek := HQ5.out.2.2.1
        obtain ⟨s10, ho10, hO10, hr10, he10⟩ := os_open hO9 _ hrch (by omega) (by rw [hr9]; omega) (by rw [hr9, hr7]; omega)
        have hop10 := lopen_calls L9b (fun e => by have h := hO9.len; rw [e] at h; simp at h) (by omega) _ 3 _ (hT9b.F (by simp))
        have hl10 : ((([true, true, true].set i3 false).set i3 true).set j3 false).length = 3 := by simp
        rw [ho10, hlg9, hl10] at hop10
        obtain ⟨q1, q1f⟩ := q1
        obtain ⟨q2, q2f⟩ := q2
        obtain ⟨wa, hwa⟩ : ∃ wa, wa = (w9.setCell ⟨b2, i3, none⟩ (.bool true)).setCell ⟨b2, j3, none⟩ (.bool false) := ⟨_, rfl⟩
        rw [← hwa] at hKa9 hKw9 hop10
        have HQ9 := Lib.hid (And.intro hKa9 (And.intro hKw9 (And.intro hlg9 (hr10.trans hr9))))
        clear hop9 hs9 L9 T9 hlg9 hT9 hlow6 hT9a L9a hT9b L9b hKa9 hKw9 hrch hO9 hr9 he9 hr7 hrk hek ho10 hO10 hr10 he10 hl10
        go_wp2_with fail
        rw [← hwa]
        refine hop10.mono ?_
        rintro e w10 ⟨x10, rfl, hs10, L10, T10⟩
        simp only at L10
        have hlg10 := hs10.1.trans HQ9.out.2.2.1
        have hKa10 := HQ9.out.1.stp T10
        have hKw10 := HQ9.out.2.1.stp T10
        obtain ⟨Aa, ca, ea, _, hCa⟩ := hKa10.1.reads
        obtain ⟨Aw, cw, ew, _, hCw⟩ := hKw10.1.reads
        have ea' : A8 = Aa := by injection ea
        have ew' : A5 = Aw := by injection ew
        rw [← ea'] at hCa
        rw [← ew'] at hCw
        have hls := lists_calls _ c8 _ _ c5 _ w10 hCa hCw
        rw [show sameB s7.row sk.row = true by rw [HQ6.out.2.1]; exact same_refl _] at hls
        have HQ10 := Lib.hid (And.intro L10 (And.intro hKw10 hlg10))
        clear hop10 hs10 L10 T10 hlg10 hKa10 hKw10 hCa hCw ea ew ea' ew' q1 q1f q2 q2f
        go_wp2_with fail
        refine hls.mono ?_
        rintro e w11 ⟨rfl, hd⟩
        have hb11 := hd.below
        have hrow12 := row_calls (HQ10.out.1.below hb11)
        rw [HQ10.out.2.2, HQ9.out.2.2.2] at hrow12
        have HQ11 := Lib.hid (And.intro (HQ10.out.1.below hb11) (HQ10.out.2.1.below hb11))
        clear hls hd hb11
        go_wp2_with fail
        refine hrow12.mono ?_
        rintro e w12 ⟨v12, rfl, hI12⟩
        obtain ⟨A12, c12, hv12, _, _, hC12⟩ := hI12.1.reads
        have hKw12 := HQ11.out.2.below hI12.2.1
        obtain ⟨Aw, cw, ew, _, hCw⟩ := hKw12.1.reads
        have ew' : A5 = Aw := by injection ew
        rw [← ew'] at hCw
        subst hv12
        have hls2 := lists_calls _ c12 _ _ c5 _ w12 hC12 hCw
        rw [same_refl] at hls2
        have HB12 := Lib.hid (HQ11.out.1.below hI12.2.1).base
        clear hrow12 hI12 hC12 hKw12 hCw ew ew'
        go_wp2_with fail
        refine hls2.mono ?_
        rintro e w13 ⟨rfl, hd⟩
        have HB13 := Lib.hid (below_then HB12.out HB12.out.size hd.below)
        clear hls2 hd
        go_wp2_with fail
        go_ret
        exact ⟨rfl, HB13.out⟩
end Go.Proofs.YtiinelmednbpmaaGreat.Slog
