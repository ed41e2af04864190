import Derived.Test.YtiinelmednbpmaaGreatLBegins
/- The walk of SlogStays (printed by mkstays.py of LStays.tpl). -/
namespace Go.Proofs.YtiinelmednbpmaaGreat.Slog
open Go.RowKit Go.Maps Go.Proofs.YtiinelmednbpmaaGreatW.PrintWords Go.Proofs.YtiinelmednbpmaaGreatW.PrintMore Go.Proofs.YtiinelmednbpmaaGreat.Row Go.Proofs.YtiinelmednbpmaaGreat.Cut Go.Proofs.YtiinelmednbpmaaGreat.DiskM Go.Proofs.YtiinelmednbpmaaGreat.Quor Go.Proofs.YtiinelmednbpmaaGreat.Slot
open Go.Proofs.YtiinelmednbpmaaGreat.Crc (KB sameB lists_calls)
set_option maxRecDepth 1000000 in
set_option maxHeartbeats 16000000 in
theorem stays_calls (n : Int) (hn0 : 0 ≤ n) (hn1 : n ≤ 255) (A1 : Option Addr) (c1 : Nat) (l : List L6) (w : World) (hK : ldeedK.C w A1 l.length l) (hby : ∀ d ∈ l, ∀ x ∈ d.2.2.2.2.1, 0 ≤ x ∧ x ≤ 255) (hbl : ∀ d ∈ l, d.2.2.2.2.1.length ≤ 9223372036854775807) :
    Calls Tryz.prog 6 #[.int .u8 n, .slice A1 l.length c1] w fun e w' => e = .returned (.bool true) ∧ Below w.heap.size w w' := by
  obtain ⟨q, hq⟩ : ∃ q : Nat, n % 4 = (q : Int) := ⟨(n % 4).toNat, by omega⟩
  have hq3 : q ≤ 3 := by omega
  obtain ⟨m, hm⟩ : ∃ m : Nat, m = 1 + 2 * q := ⟨_, rfl⟩
  have hmc : (1 : Int) + 2 * (q : Int) = (m : Int) := by omega
  have hmo : m = 1 ∨ m = 3 ∨ m = 5 ∨ m = 7 := by omega
  have h1 := shown_calls w
  obtain ⟨ll, hll⟩ : ∃ ll, ll = l.length := ⟨_, rfl⟩
  have HK := Lib.hid hK; have HBy := Lib.hid hby; have HBl := Lib.hid hbl; have HLL := Lib.hid hll; have HM := Lib.hid hmo
  have hq3i : (q : Int) ≤ 3 := by omega
  have hq0i : (0 : Int) ≤ (q : Int) := by omega
  rw [← hll]
  clear hK hby hbl hll hmo hm
  go_enter Tryz.func6, Tryz.ntmps6
  go_wp2_with fail
  refine h1.mono ?_
  rintro e w1 ⟨rfl, B1⟩
  have hnew := lnew_calls (w0 := w) B1 m HM.out 1048576 (by omega) (by omega)
  clear h1 B1
  go_wp2_with fail
  refine hnew.mono ?_
  rintro e w2 ⟨x, rfl, L0, hb12⟩
  have HL0 := Lib.hid L0
  obtain ⟨lg, hlg⟩ : ∃ lg, lg = x.lg := ⟨_, rfl⟩
  rw [← hlg]
  have HLG := Lib.hid hlg
  have HZ : Hid ((zeros m).st ≠ []) := Lib.hid fun e => by have h := zeros_len m; rw [e] at h; have := HM.out; simp only [List.length_nil] at h; omega
  clear hnew L0 hb12 hlg
  go_wp2_with fail
  go_loopw [8, 9] (fun v i wx => ∃ (k : Nat) (xk : LB) (sk : LS), k ≤ ll ∧ k ≤ 40 ∧ i = .int .i64 k ∧ xk.lg = lg ∧ Lg w wx xk 1048576 sk ∧ LI sk ∧ 0 ≤ sk.ep ∧ sk.ep ≤ k ∧ sk.st ≠ [] ∧ RowF wx w.heap.size (fun q => ¬ LF xk q) v sk.row) (fun _ i _ => ll - (intOf i).toNat)
  case atStart => exact ⟨0, x, zeros m, Nat.zero_le _, by decide, rfl, HLG.out.symm, HL0.out, li_zero m, Int.le_refl _, Int.le_refl _, HZ.out, RowF.nil _ _ _⟩
  case round =>
    obtain ⟨k, xk, sk, hk, hk40, rfl, hlk, Lk, hI, he0, he1, hne, hRk⟩ := hrel
    rename World => wx
    have hk0 : (0 : Int) ≤ (k : Int) := by omega
    by_cases hlt : k < ll ∧ k < 40
    · obtain ⟨hk1, hk2⟩ := hlt
      have hk1i : (k : Int) < (ll : Int) := by omega
      have hk2i : (k : Int) < 40 := by omega
      obtain ⟨ad, x1, x2, x3, x4, x5, x6, Ai, ci, Aj, cj, hA, hx, c0, c1', c2, c3, c4, c5, hci, hCb, hCr⟩ := at_ldeed HK.out k (by rw [← HLL.out]; exact hk1)
      subst hA
      have hmem := List.mem_of_getElem? hx
      have hby5 := HBy.out _ hmem
      have hbl5 := HBl.out _ hmem
      simp only at hby5 hbl5
      have d0 := pw_cell_below Lk.base c0
      have d1 := pw_cell_below Lk.base c1'
      have d2 := pw_cell_below Lk.base c2
      have d3 := pw_cell_below Lk.base c3
      have d4 := pw_cell_below Lk.base c4
      have d5 := pw_cell_below Lk.base c5
      have hrl := Lk.rng.1
      obtain ⟨Av, cv, hv⟩ := hRk.slice
      obtain ⟨rn, hrn⟩ : ∃ rn, rn = sk.row.length := ⟨_, rfl⟩
      rw [← hrn] at hv
      subst hv
      have hba := (Below.refl wx.heap.size wx).alloc (Nat.le_refl _) (.cells #[.int .i64 x1, .int .i64 x2, .int .i64 x3, .int .i64 x4, .slice Ai x5.length ci, .slice Aj x6.length cj] 42)
      have hbx := heap_alloc_new wx (.cells #[.int .i64 x1, .int .i64 x2, .int .i64 x3, .int .i64 x4, .slice Ai x5.length ci, .slice Aj x6.length cj] 42)
      have hnb : ¬ LF xk wx.heap.size := Lk.nlt (.inl (Nat.le_refl _))
      have L1 := Lk.below hba
      have hR1 := hRk.below hba
      have hF5 := Lg.came (Kd.heap_int .u8) L1 hCb
      have hF6 := Lg.came Kd.heap_bool L1 hCr
      obtain ⟨bl, hbl⟩ : ∃ bl, bl = x5.length := ⟨_, rfl⟩
      obtain ⟨rl, hrl6⟩ : ∃ rl, rl = x6.length := ⟨_, rfl⟩
      have hcr := lcrash_any L1 x2 x3 x4 hI.inv
      have hap := lappend_calls L1 hne Ai ci x5 Aj cj x6 hF5 hci hby5 hbl5 hF6
      have hop := lopen_calls L1 hne ⟨he0, by omega⟩ Aj cj x6 hF6
      have hla := li_append (room := 1048576) hI x6 x5
      have hlo := li_open (room := 1048576) hI x6
      rw [hlk, ← hbl, ← hrl6] at hap
      rw [hlk, ← hbl, ← hrl6] at hop
      rw [hlk, ← hbl, ← hrl6] at hcr
      rw [← hbl] at d4
      rw [← hrl6] at d5
      rw [← hbl, ← hrl6] at hbx hba L1 hR1
      obtain ⟨b0, hb0⟩ : ∃ b0, b0 = wx.heap.size := ⟨_, rfl⟩
      rw [← hb0] at hbx hnb
      have HB0e := Lib.hid hb0
      have HS := Lib.hid (And.intro hlk (And.intro L1 (And.intro hI (And.intro he0 (And.intro he1 (And.intro hne hR1))))))
      have HX := Lib.hid (And.intro hbx (And.intro hnb (And.intro hCb (And.intro hci (And.intro hrl hbl)))))
      have HRN := Lib.hid hrn
      clear c0 c1' c2 c3 c4 c5 hx hmem hby5 hbl5 hrl hrn hF5 hF6 hba hbx hnb hCb hCr hci hlk Lk hI he0 he1 hne hRk L1 hR1 hbl hrl6 hb0
      by_cases k0 : x1 = 0
      · subst k0
        clear hop hcr hlo
        obtain ⟨a4, ha4⟩ : ∃ a4, a4 = appendF 1048576 x5 x6 sk := ⟨_, rfl⟩
        rw [← ha4] at hap hla
        obtain ⟨r1, r2, s4⟩ := a4
        simp only at hla
        obtain ⟨hI4, he4, hl4, hc4⟩ := hla
        have HI4 := Lib.hid (And.intro hI4 (And.intro he4 hl4))
        clear hI4 he4 hl4 ha4
        rcases hc4 with ⟨hr2, hr1, hrow4⟩ | ⟨hr2, hrow4⟩
        · subst hr2
          rw [← HRN.out] at hr1
          subst hr1
          have HR4 := Lib.hid hrow4
          clear hrow4
          go_wp2_with fail
          rw [← HB0e.out]
          refine hap.mono ?_
          rintro e w4 ⟨x4', rfl, hs4, L4, T4⟩
          simp only at L4
          obtain ⟨hbx, hnb, hCb, hci, hrl, hbl⟩ := HX.out
          have hb4 := (T4.keep b0 (Array.getElem?_eq_some_iff.1 hbx).1 hnb).trans hbx
          have p4 := (blk_cell hb4 4).trans rfl
          have hlg4 : x4'.lg = lg := hs4.1.trans HS.out.1
          have hR4 := HS.out.2.2.2.2.2.2.stp T4
          have hvb : ∀ q, (Value.slice Av rn cv).ownBlock = some q → w.heap.size ≤ q := fun q e => by
            obtain ⟨zs, h1, _⟩ := hR4
            exact (h1.lt q e).1
          obtain ⟨A5, c5, w5, hrun, hR5, hk5, hs5, hg5, _⟩ := hR4.push L4.base.size (fun k hk => L4.nlt (.inl hk)) Ai ci x5 hci (Kd.F_mono (F_came (Kd.heap_int .u8) hCb L4.base) fun k hk => ⟨L4.nlt (.inr hk), fun e => by have := hvb k e; omega⟩) hrl
          have hbx5 : Below w.heap.size w (w4.alloc (.cells #[.slice Ai x5.length ci] 32)) := L4.base.alloc L4.base.size _
          have hb5 : Below w.heap.size w w5 := hbx5.grown hg5 hbx5.size (fun k e => hvb k e)
          have hvt : ∀ q, (Value.slice Av rn cv).ownBlock = some q → ¬ LF x4' q ∧ ∃ cs, w4.heap[q]? = some (.cells cs 32 (0, 0)) := fun q e => by
            obtain ⟨zs, h1, h2, _⟩ := hR4
            exact ⟨h2 q e, (h1.lt q e).2.2⟩
          have L5 := L4.but hb5 hs5 fun k hk hh => hk5 k hk fun e => by
            obtain ⟨q1, cs, q2⟩ := hvt k e
            rcases hh with hh | ⟨cs2, hh⟩
            · exact q1 hh
            · rw [q2] at hh; cases hh
          obtain ⟨rz, hrz⟩ : ∃ rz, rz = rn + 1 := ⟨_, rfl⟩
          rw [← HRN.out] at hrun hR5
          rw [← hbl] at hrun
          rw [← hrz] at hrun hR5
          rw [← HR4.out] at hR5
          have HRun := Lib.hid hrun
          have HRZ : Hid (rz = s4.row.length) := Lib.hid (by rw [HR4.out, List.length_append, List.length_singleton, hrz, HRN.out])
          have HT := Lib.hid (And.intro hlg4 (And.intro L5 (And.intro hR5 (And.intro HI4.out.1 (And.intro (show 0 ≤ s4.ep by rw [HI4.out.2.1]; exact HS.out.2.2.2.1) (And.intro (show s4.ep ≤ ((k + 1 : Nat) : Int) by rw [HI4.out.2.1]; have := HS.out.2.2.2.2.1; omega) (show s4.st ≠ [] from fun e => HS.out.2.2.2.2.2.1 (List.eq_nil_of_length_eq_zero (by rw [← HI4.out.2.2, e]; rfl)))))))))
          clear hbx hnb hCb hci hrl hbl hb4 hlg4 hR4 hvb hrun hR5 hk5 hs5 hg5 hbx5 hb5 hvt L5 hs4 L4 T4 hap hrz d0 d1 d2 d3 d4 d5
          go_wp2_with (at_builtin; refine wp_append_run rfl _ _ 22 (by rfl) _ _ _ (by rfl) (by rfl) HRun.out ?_)
          obtain ⟨hlz, Lz, hRz, hmz⟩ := HT.out
          have hrow := row_calls Lz
          rw [hlz] at hrow
          clear hlz Lz hRz hmz
          go_wp2_with fail
          refine hrow.mono ?_
          rintro e w9 ⟨v9, rfl, hI9⟩
          obtain ⟨A9, c9, hv9, _, _, hC9⟩ := hI9.1.reads
          have hR9 := HT.out.2.2.1.below hI9.2.1
          obtain ⟨A6, c6, e6, _, hC6⟩ := hR9.reads
          subst hv9
          have e6a : A5 = A6 := by
            injection e6
          rw [← e6a] at hC6
          clear e6 e6a
          have hls := lists_calls _ c9 _ _ c5 _ w9 hC9 hC6
          rw [same_refl] at hls
          have HB9 := Lib.hid (And.intro (HT.out.2.1.below hI9.2.1) hR9)
          rw [← HRZ.out] at hls ⊢
          clear hrow hI9 hC9 hR9 hC6
          go_wp2_with fail
          refine hls.mono ?_
          rintro e w10 ⟨rfl, hd⟩
          have HB10 := Lib.hid (And.intro (HB9.out.1.below hd.below) (HB9.out.2.below hd.below))
          clear hls hd
          go_wp2_with fail
          go_roundw
          case rel => exact ⟨k + 1, _, _, by omega, by omega, by go_num, HT.out.1, HB10.out.1, HT.out.2.2.2.1, HT.out.2.2.2.2.1, HT.out.2.2.2.2.2.1, HT.out.2.2.2.2.2.2, HB10.out.2⟩
          case measure => simp only [intOf]; omega
        · have HR4 := Lib.hid hrow4
          clear hrow4
          go_wp2_with fail
          rw [← HB0e.out]
          refine hap.mono ?_
          rintro e w4 ⟨x4', rfl, hs4, L4, T4⟩
          simp only at L4
          have hlg4 : x4'.lg = lg := hs4.1.trans HS.out.1
          have hR4 := HS.out.2.2.2.2.2.2.stp T4
          rw [← HR4.out] at hR4
          have HRZ : Hid (rn = s4.row.length) := Lib.hid (by rw [HR4.out, HRN.out])
          have HT := Lib.hid (And.intro hlg4 (And.intro L4 (And.intro hR4 (And.intro HI4.out.1 (And.intro (show 0 ≤ s4.ep by rw [HI4.out.2.1]; exact HS.out.2.2.2.1) (And.intro (show s4.ep ≤ ((k + 1 : Nat) : Int) by rw [HI4.out.2.1]; have := HS.out.2.2.2.2.1; omega) (show s4.st ≠ [] from fun e => HS.out.2.2.2.2.2.1 (List.eq_nil_of_length_eq_zero (by rw [← HI4.out.2.2, e]; rfl)))))))))
          clear hlg4 hR4 hs4 L4 T4 hap d0 d1 d2 d3 d4 d5
          obtain ⟨hlz, Lz, hRz, hmz⟩ := HT.out
          have hrow := row_calls Lz
          rw [hlz] at hrow
          clear hlz Lz hRz hmz
          go_wp2_with fail
          refine hrow.mono ?_
          rintro e w9 ⟨v9, rfl, hI9⟩
          obtain ⟨A9, c9, hv9, _, _, hC9⟩ := hI9.1.reads
          have hR9 := HT.out.2.2.1.below hI9.2.1
          obtain ⟨A6, c6, e6, _, hC6⟩ := hR9.reads
          subst hv9
          have e6a : Av = A6 := by
            injection e6
          rw [← e6a] at hC6
          clear e6 e6a
          have hls := lists_calls _ c9 _ _ cv _ w9 hC9 hC6
          rw [same_refl] at hls
          have HB9 := Lib.hid (And.intro (HT.out.2.1.below hI9.2.1) hR9)
          rw [← HRZ.out] at hls ⊢
          clear hrow hI9 hC9 hR9 hC6
          go_wp2_with fail
          refine hls.mono ?_
          rintro e w10 ⟨rfl, hd⟩
          have HB10 := Lib.hid (And.intro (HB9.out.1.below hd.below) (HB9.out.2.below hd.below))
          clear hls hd
          go_wp2_with fail
          go_roundw
          case rel => exact ⟨k + 1, _, _, by omega, by omega, by go_num, HT.out.1, HB10.out.1, HT.out.2.2.2.1, HT.out.2.2.2.2.1, HT.out.2.2.2.2.2.1, HT.out.2.2.2.2.2.2, HB10.out.2⟩
          case measure => simp only [intOf]; omega
      · have t0 : (x1 == 0) = false := by simpa using k0
        clear hap hla
        by_cases k1 : x1 = 1
        · subst k1
          clear hcr
          obtain ⟨a4, ha4⟩ : ∃ a4, a4 = openF 1048576 x6 sk := ⟨_, rfl⟩
          rw [← ha4] at hop hlo
          obtain ⟨r1, s4⟩ := a4
          simp only at hlo
          obtain ⟨hI4, he4, hl4, hc4⟩ := hlo
          have HI4 := Lib.hid (And.intro hI4 (And.intro he4 hl4))
          clear hI4 he4 hl4 ha4
          rcases hc4 with ⟨rfl, hrow4⟩ | ⟨rfl, hrow4⟩
          · have HR4 := Lib.hid (begins_row hrow4)
            clear hrow4
            go_wp2_with fail
            rw [← HB0e.out]
            refine hop.mono ?_
            rintro e w4 ⟨x4', rfl, hs4, L4, T4⟩
            simp only at L4
            have hlg4 : x4'.lg = lg := hs4.1.trans HS.out.1
            have hR4 := HS.out.2.2.2.2.2.2.stp T4
            have hrow5 := row_calls L4
            rw [hlg4] at hrow5
            have HQ := Lib.hid (And.intro hlg4 (And.intro L4 hR4))
            clear hlg4 hR4 hs4 L4 T4 hop d0 d1 d2 d3 d4 d5
            go_wp2_with fail
            refine hrow5.mono ?_
            rintro e w5 ⟨v5, rfl, hI5⟩
            obtain ⟨A5, c5, hv5, hz5, _, hC5⟩ := hI5.1.reads
            have hR5 := HQ.out.2.2.below hI5.2.1
            obtain ⟨A7, c7, e7, _, hC7⟩ := hR5.reads
            have hRn : RowF w5 w.heap.size (fun q => ¬ LF x4' q) v5 s4.row := (hI5.rowF (ok := fun q => ¬ LF x4' q) (fun q hq => HQ.out.2.1.nlt (.inl hq))).mono HQ.out.2.1.base.size (fun _ h => h)
            subst hv5
            have e7a : Av = A7 := by
              injection e7
            rw [← e7a] at hC7
            clear e7 e7a
            have hbg := begins_calls _ c5 _ _ cv _ w5 hC5 hC7 hz5 HR4.out.1 HR4.out.2
            obtain ⟨rz, hrz⟩ : ∃ rz, rz = s4.row.length := ⟨_, rfl⟩
            rw [← HRN.out, ← hrz] at hbg
            rw [← hrz] at hRn ⊢
            have HRZ := Lib.hid hrz
            have HQ5 := Lib.hid (And.intro (HQ.out.2.1.below hI5.2.1) hRn)
            clear hrow5 hI5 hC5 hR5 hC7 hRn hz5 hrz
            go_wp2_with fail
            refine hbg.mono ?_
            rintro e w6 ⟨rfl, B6⟩
            have HT := Lib.hid (And.intro HQ.out.1 (And.intro (HQ5.out.1.below B6) (And.intro (HQ5.out.2.below B6) (And.intro HI4.out.1 (And.intro (show 0 ≤ s4.ep by rw [HI4.out.2.1]; have := HS.out.2.2.2.1; omega) (And.intro (show s4.ep ≤ ((k + 1 : Nat) : Int) by rw [HI4.out.2.1]; have := HS.out.2.2.2.2.1; omega) (show s4.st ≠ [] from fun e => HS.out.2.2.2.2.2.1 (List.eq_nil_of_length_eq_zero (by rw [← HI4.out.2.2, e]; rfl)))))))))
            clear hbg B6
            obtain ⟨hlz, Lz, hRz, hmz⟩ := HT.out
            have hrow := row_calls Lz
            rw [hlz] at hrow
            clear hlz Lz hRz hmz
            go_wp2_with fail
            refine hrow.mono ?_
            rintro e w9 ⟨v9, rfl, hI9⟩
            obtain ⟨A9, c9, hv9, _, _, hC9⟩ := hI9.1.reads
            have hR9 := HT.out.2.2.1.below hI9.2.1
            obtain ⟨A6, c6, e6, _, hC6⟩ := hR9.reads
            subst hv9
            have e6a : A5 = A6 := by
              injection e6
            rw [← e6a] at hC6
            clear e6 e6a
            have hls := lists_calls _ c9 _ _ c5 _ w9 hC9 hC6
            rw [same_refl] at hls
            have HB9 := Lib.hid (And.intro (HT.out.2.1.below hI9.2.1) hR9)
            rw [← HRZ.out] at hls ⊢
            clear hrow hI9 hC9 hR9 hC6
            go_wp2_with fail
            refine hls.mono ?_
            rintro e w10 ⟨rfl, hd⟩
            have HB10 := Lib.hid (And.intro (HB9.out.1.below hd.below) (HB9.out.2.below hd.below))
            clear hls hd
            go_wp2_with fail
            go_roundw
            case rel => exact ⟨k + 1, _, _, by omega, by omega, by go_num, HT.out.1, HB10.out.1, HT.out.2.2.2.1, HT.out.2.2.2.2.1, HT.out.2.2.2.2.2.1, HT.out.2.2.2.2.2.2, HB10.out.2⟩
            case measure => simp only [intOf]; omega
          · have HR4 := Lib.hid hrow4
            clear hrow4
            go_wp2_with fail
            rw [← HB0e.out]
            refine hop.mono ?_
            rintro e w4 ⟨x4', rfl, hs4, L4, T4⟩
            simp only at L4
            have hlg4 : x4'.lg = lg := hs4.1.trans HS.out.1
            have hR4 := HS.out.2.2.2.2.2.2.stp T4
            rw [← HR4.out] at hR4
            have HRZ : Hid (rn = s4.row.length) := Lib.hid (by rw [HR4.out, HRN.out])
            have HT := Lib.hid (And.intro hlg4 (And.intro L4 (And.intro hR4 (And.intro HI4.out.1 (And.intro (show 0 ≤ s4.ep by rw [HI4.out.2.1]; have := HS.out.2.2.2.1; omega) (And.intro (show s4.ep ≤ ((k + 1 : Nat) : Int) by rw [HI4.out.2.1]; have := HS.out.2.2.2.2.1; omega) (show s4.st ≠ [] from fun e => HS.out.2.2.2.2.2.1 (List.eq_nil_of_length_eq_zero (by rw [← HI4.out.2.2, e]; rfl)))))))))
            clear hlg4 hR4 hs4 L4 T4 hop d0 d1 d2 d3 d4 d5
            obtain ⟨hlz, Lz, hRz, hmz⟩ := HT.out
            have hrow := row_calls Lz
            rw [hlz] at hrow
            clear hlz Lz hRz hmz
            go_wp2_with fail
            refine hrow.mono ?_
            rintro e w9 ⟨v9, rfl, hI9⟩
            obtain ⟨A9, c9, hv9, _, _, hC9⟩ := hI9.1.reads
            have hR9 := HT.out.2.2.1.below hI9.2.1
            obtain ⟨A6, c6, e6, _, hC6⟩ := hR9.reads
            subst hv9
            have e6a : Av = A6 := by
              injection e6
            rw [← e6a] at hC6
            clear e6 e6a
            have hls := lists_calls _ c9 _ _ cv _ w9 hC9 hC6
            rw [same_refl] at hls
            have HB9 := Lib.hid (And.intro (HT.out.2.1.below hI9.2.1) hR9)
            rw [← HRZ.out] at hls ⊢
            clear hrow hI9 hC9 hR9 hC6
            go_wp2_with fail
            refine hls.mono ?_
            rintro e w10 ⟨rfl, hd⟩
            have HB10 := Lib.hid (And.intro (HB9.out.1.below hd.below) (HB9.out.2.below hd.below))
            clear hls hd
            go_wp2_with fail
            go_roundw
            case rel => exact ⟨k + 1, _, _, by omega, by omega, by go_num, HT.out.1, HB10.out.1, HT.out.2.2.2.1, HT.out.2.2.2.2.1, HT.out.2.2.2.2.2.1, HT.out.2.2.2.2.2.2, HB10.out.2⟩
            case measure => simp only [intOf]; omega
        · have t1 : (x1 == 1) = false := by simpa using k1
          clear hop hlo
          obtain ⟨r, hcr⟩ := hcr
          go_wp2_with fail
          rw [← HB0e.out]
          refine hcr.mono ?_
          rintro e w4 ⟨x4', rfl, hs4, L4, T4⟩
          have hlg4 : x4'.lg = lg := hs4.trans HS.out.1
          have hR4 := HS.out.2.2.2.2.2.2.stp T4
          have HRZ : Hid (rn = sk.row.length) := HRN
          have HT := Lib.hid (And.intro hlg4 (And.intro L4 (And.intro hR4 (And.intro HS.out.2.2.1 (And.intro HS.out.2.2.2.1 (And.intro (show sk.ep ≤ ((k + 1 : Nat) : Int) by have := HS.out.2.2.2.2.1; omega) HS.out.2.2.2.2.2.1))))))
          clear hlg4 hR4 hs4 L4 T4 hcr d0 d1 d2 d3 d4 d5
          obtain ⟨hlz, Lz, hRz, hmz⟩ := HT.out
          have hrow := row_calls Lz
          rw [hlz] at hrow
          clear hlz Lz hRz hmz
          go_wp2_with fail
          refine hrow.mono ?_
          rintro e w9 ⟨v9, rfl, hI9⟩
          obtain ⟨A9, c9, hv9, _, _, hC9⟩ := hI9.1.reads
          have hR9 := HT.out.2.2.1.below hI9.2.1
          obtain ⟨A6, c6, e6, _, hC6⟩ := hR9.reads
          subst hv9
          have e6a : Av = A6 := by
            injection e6
          rw [← e6a] at hC6
          clear e6 e6a
          have hls := lists_calls _ c9 _ _ cv _ w9 hC9 hC6
          rw [same_refl] at hls
          have HB9 := Lib.hid (And.intro (HT.out.2.1.below hI9.2.1) hR9)
          rw [← HRZ.out] at hls ⊢
          clear hrow hI9 hC9 hR9 hC6
          go_wp2_with fail
          refine hls.mono ?_
          rintro e w10 ⟨rfl, hd⟩
          have HB10 := Lib.hid (And.intro (HB9.out.1.below hd.below) (HB9.out.2.below hd.below))
          clear hls hd
          go_wp2_with fail
          go_roundw
          case rel => exact ⟨k + 1, _, _, by omega, by omega, by go_num, HT.out.1, HB10.out.1, HT.out.2.2.2.1, HT.out.2.2.2.2.1, HT.out.2.2.2.2.2.1, HT.out.2.2.2.2.2.2, HB10.out.2⟩
          case measure => simp only [intOf]; omega
    · have hx5 : ((k : Int) < (ll : Int) ∧ (40 : Int) ≤ (k : Int)) ∨ (ll : Int) ≤ (k : Int) := by omega
      have HB := Lib.hid Lk.base
      clear hlt hlk Lk hI he0 he1 hne hRk
      rcases hx5 with ⟨hx5, hx6⟩ | hx5
      all_goals
        go_wp2_with fail
        go_ret
        exact ⟨rfl, HB.out⟩
end Go.Proofs.YtiinelmednbpmaaGreat.Slog
