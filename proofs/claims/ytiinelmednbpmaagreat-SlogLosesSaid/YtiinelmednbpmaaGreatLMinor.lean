import Derived.Test.YtiinelmednbpmaaGreatLMinP
import Derived.Test.YtiinelmednbpmaaGreatLRow
/- The walk of SlogMinor. -/
namespace Go.Proofs.YtiinelmednbpmaaGreat.Slog
open Go.RowKit Go.Maps Go.Proofs.YtiinelmednbpmaaGreatW.PrintWords Go.Proofs.YtiinelmednbpmaaGreatW.PrintMore Go.Proofs.YtiinelmednbpmaaGreat.Row Go.Proofs.YtiinelmednbpmaaGreat.Cut Go.Proofs.YtiinelmednbpmaaGreat.DiskM Go.Proofs.YtiinelmednbpmaaGreat.Quor Go.Proofs.YtiinelmednbpmaaGreat.Slot
open Go.Proofs.YtiinelmednbpmaaGreat.Crc (KB sameB lists_calls)
/-- What came in is read whatever of the law's own is turned. -/
theorem F_came {α : Type} {d : Kd α} (hd : Kd.Heap d) {w0 w : World} {A : Option Addr} {n : Nat} {l : List α} (h : d.C w0 A n l) (hb : Below w0.heap.size w0 w) : Kd.F d w (fun k => k < w0.heap.size) A n l :=
  fun _ hW => hd.C (fun k hk => (hW k hk (Nat.lt_of_lt_of_le hk hb.size)).trans (hb.block k hk)) h
theorem Lg.came {α : Type} {d : Kd α} (hd : Kd.Heap d) {w0 w : World} {x : LB} {room : Int} {s : LS} (L : Lg w0 w x room s) {A : Option Addr} {n : Nat} {l : List α} (h : d.C w0 A n l) : Kd.F d w (fun k => ¬ LF x k) A n l :=
  Kd.F_mono (F_came hd h L.base) fun _ hk => L.nlt (.inr hk)
theorem same_refl (l : List (List Int)) : sameB l l = true := by unfold sameB; exact decide_eq_true rfl
theorem reachN_le (rs : List Bool) : ∀ (d k : Nat), rs.length ≤ k → reachN rs (k + d) = reachN rs k
  | 0, k, _ => rfl
  | d + 1, k, h => by
    have ih := reachN_le rs d k h
    rw [← Nat.add_assoc]
    unfold reachN at ih ⊢
    rw [List.range_succ, List.filter_append, List.length_append, ih, List.filter_cons, List.filter_nil]
    have : rs.getD (k + d) false = false := by rw [List.getD_eq_getElem?_getD, List.getElem?_eq_none (by omega)]; rfl
    rw [this]; rfl
theorem reachN_succ (rs : List Bool) (k : Nat) : reachN rs (k + 1) = reachN rs k + if rs.getD k false then 1 else 0 := by
  unfold reachN
  rw [List.range_succ, List.filter_append, List.length_append, List.filter_cons, List.filter_nil]
  cases rs.getD k false <;> rfl
theorem reachN_bound (rs : List Bool) (k : Nat) : reachN rs k ≤ k := by
  unfold reachN
  have := List.length_filter_le (fun i => rs.getD i false) (List.range k)
  simpa using this
set_option maxRecDepth 1000000 in
set_option maxHeartbeats 16000000 in
theorem minor_calls (n : Int) (hn0 : 0 ≤ n) (hn1 : n ≤ 255) (A1 : Option Addr) (c1 : Nat) (l8 : List (List Int)) (A2 : Option Addr) (c2 : Nat) (rs : List Bool) (w : World) (hK : KB.C w A1 l8.length l8) (hR : Kd.bool.C w A2 rs.length rs) (hby : ∀ b ∈ l8, ∀ x ∈ b, 0 ≤ x ∧ x ≤ 255) (hbl : ∀ b ∈ l8, b.length ≤ 9223372036854775807) :
    Calls Tryz.prog 3 #[.int .u8 n, .slice A1 l8.length c1, .slice A2 rs.length c2] w fun e w' => e = .returned (.bool true) ∧ Below w.heap.size w w' := by
  obtain ⟨q, hq⟩ : ∃ q : Nat, n % 4 = (q : Int) := ⟨(n % 4).toNat, by omega⟩
  have hq3 : q ≤ 3 := by omega
  obtain ⟨m, hm⟩ : ∃ m : Nat, m = 1 + 2 * q := ⟨_, rfl⟩
  have hmc : (1 : Int) + 2 * (q : Int) = (m : Int) := by omega
  have hmo : m = 1 ∨ m = 3 ∨ m = 5 ∨ m = 7 := by omega
  have h1 := shown_calls w
  obtain ⟨ll, hll⟩ : ∃ ll, ll = l8.length := ⟨_, rfl⟩
  obtain ⟨rl, hrl⟩ : ∃ rl, rl = rs.length := ⟨_, rfl⟩
  have HK := Lib.hid hK; have HR := Lib.hid hR; have HBy := Lib.hid hby; have HBl := Lib.hid hbl; have HLL := Lib.hid hll; have HRL := Lib.hid hrl; have HM := Lib.hid hmo
  have hq3i : (q : Int) ≤ 3 := by omega
  have hq0i : (0 : Int) ≤ (q : Int) := by omega
  rw [← hll, ← hrl]
  clear hK hR hby hbl hll hrl hmo hm
  go_enter Tryz.func3, Tryz.ntmps3
  go_wp2_with fail
  refine h1.mono ?_
  rintro e w1 ⟨rfl, B1⟩
  have hnew := lnew_calls (w0 := w) B1 m HM.out 1048576 (by omega) (by omega)
  have HB1 := Lib.hid B1
  clear h1 B1
  go_wp2_with fail
  refine hnew.mono ?_
  rintro e w2 ⟨x, rfl, L0, hb12⟩
  have HL0 := Lib.hid L0
  obtain ⟨lg, hlg⟩ : ∃ lg, lg = x.lg := ⟨_, rfl⟩
  rw [← hlg]
  have HLG := Lib.hid hlg
  clear hnew L0 hb12 hlg
  go_wp2_with fail
  go_loop [11, 12] (fun ct i => ∃ (k : Nat), k ≤ m ∧ k ≤ rl ∧ i = .int .i64 k ∧ ct = .int .i64 (reachN rs k)) (fun _ i => m - (intOf i).toNat)
  case atStart => exact ⟨0, Nat.zero_le _, Nat.zero_le _, rfl, rfl⟩
  case round =>
    obtain ⟨k, hk, hkl, rfl, rfl⟩ := hrel
    have hk0 : (0 : Int) ≤ (k : Int) := by omega
    have hrb := reachN_bound rs k
    have hm7 : m ≤ 7 := by have := HM.out; omega
    by_cases hlt : k < m ∧ k < rl
    · obtain ⟨hl1, hl2⟩ := hlt
      have hl1i : (k : Int) < (m : Int) := by omega
      have hl2i : (k : Int) < (rl : Int) := by omega
      obtain ⟨ar, rfl, hr⟩ := Kd.at_bool (Kd.C_below HR.out HL0.out.base) k (by omega) (by rw [← HRL.out]; omega)
      rw [Int.toNat_natCast] at hr
      have hrd : rdOf false rs (k : Int) = rs.getD k false := by unfold rdOf; simp [List.getD_eq_getElem?_getD]
      rw [hrd] at hr
      have hsu := reachN_succ rs k
      have HS := Lib.hid hsu
      clear hrd hsu
      cases hb : rs.getD k false with
      | true =>
        rw [hb] at hr
        rw [hb, if_pos rfl] at HS
        clear hb
        go_wp2_with fail
        go_round
        case rel => exact ⟨k + 1, by omega, by omega, by go_num, by rw [HS.out]; go_num⟩
        case measure => simp only [intOf]; omega
      | false =>
        rw [hb] at hr
        rw [hb, if_neg (by decide), Nat.add_zero] at HS
        clear hb
        go_wp2_with fail
        go_round
        case rel => exact ⟨k + 1, by omega, by omega, by go_num, by rw [HS.out, Nat.add_zero]⟩
        case measure => simp only [intOf]; omega
    · have hrm : reachN rs k = reachN rs m := by
        by_cases he : k = m
        · rw [he]
        · have hkr : k = rl := by omega
          obtain ⟨d, hd⟩ : ∃ d, m = k + d := ⟨m - k, by omega⟩
          rw [hd, reachN_le rs d k (by rw [← HRL.out]; omega)]
      rw [hrm] at hrb ⊢
      have hop := lopen_calls HL0.out (fun e => by have h := zeros_len m; rw [e] at h; have := HM.out; simp only [List.length_nil] at h; omega) ⟨by show (0 : Int) ≤ 0; omega, by show (0 : Int) ≤ 1000000; omega⟩ A2 c2 rs (Lg.came Kd.heap_bool HL0.out HR.out)
      rw [← HLG.out, ← HRL.out] at hop
      by_cases hqm : m < 2 * reachN rs m
      · have hq1 : (m : Int) < 2 * (reachN rs m : Int) := by omega
        obtain ⟨s1, he1, hM1, hrow1⟩ := minor_open rs m (by have := HM.out; omega) hqm
        rw [he1] at hop
        have HM1 := Lib.hid (And.intro hM1 (And.intro hrow1 (And.intro he1 hqm)))
        clear hM1 hrow1 he1 hqm hrm
        have hx : ((k : Int) < (m : Int) ∧ (rl : Int) ≤ (k : Int)) ∨ (m : Int) ≤ (k : Int) := by omega
        clear hlt
        rcases hx with ⟨hx1, hx2⟩ | hx1
        all_goals
          go_wp2_with fail
          refine hop.mono ?_
          rintro e w3 ⟨x3, rfl, hs3, L3, T3⟩
          have hlg3 : x3.lg = lg := hs3.1.trans HLG.out.symm
          have HS3 := Lib.hid (And.intro hlg3 L3)
          clear hs3 L3 T3 hlg3 hop
          go_wp2_with fail
          go_loopw [14, 15] (fun v i wx => ∃ (j : Nat) (xk : LB) (sk : LS), j ≤ ll ∧ j ≤ 40 ∧ i = .int .i64 j ∧ xk.lg = lg ∧ Lg w wx xk 1048576 sk ∧ MS rs m sk ∧ sk.row.length ≤ j ∧ RowF wx w.heap.size (fun q => ¬ LF xk q) v sk.row) (fun _ i _ => ll - (intOf i).toNat)
          case atStart => exact ⟨0, x3, s1, Nat.zero_le _, by decide, rfl, HS3.out.1, HS3.out.2, HM1.out.1, by rw [HM1.out.2.1]; exact Nat.le_refl _, by rw [HM1.out.2.1]; exact RowF.nil _ _ _⟩
          case round =>
            obtain ⟨j, xk, sk, hj, hj40, rfl, hlk, Lk, hMk, hrk, hRk⟩ := hrel
            rename World => wx
            have hj0 : (0 : Int) ≤ (j : Int) := by omega
            by_cases hlt2 : j < ll ∧ j < 40
            · obtain ⟨hj1, hj2⟩ := hlt2
              have hj1i : (j : Int) < (ll : Int) := by omega
              have hj2i : (j : Int) < 40 := by omega
              obtain ⟨ad, b, Ai, ci, rfl, hb, d0, hci, hCb⟩ := Slot.at_row HK.out j (by rw [← HLL.out]; exact hj1)
              have hbm := List.mem_of_getElem? hb
              have d1 := pw_cell_below Lk.base d0
              have hap := lappend_calls Lk (fun e => by have h := hMk.len; rw [e] at h; have := HM.out; simp only [List.length_nil] at h; omega) Ai ci b A2 c2 rs (Lg.came (Kd.heap_int .u8) Lk hCb) hci (HBy.out b hbm) (HBl.out b hbm) (Lg.came Kd.heap_bool Lk HR.out)
              have hma := minor_append hMk (by have := HM.out; omega) HM1.out.2.2.2 (by omega) b
              rw [hlk, ← HRL.out] at hap
              have HJ := Lib.hid (And.intro hrk (And.intro hRk (And.intro hCb (And.intro hci Lk))))
              by_cases hf : 0 < b.length ∧ b.length ≤ 2048
              · rw [if_pos hf] at hma
                obtain ⟨s', hap2, hM2, hrow2⟩ := hma
                rw [hap2] at hap
                have HM2 := Lib.hid (And.intro hM2 hrow2)
                obtain ⟨rn, hrn⟩ : ∃ rn, rn = sk.row.length := ⟨_, rfl⟩
                obtain ⟨bl, hbl⟩ : ∃ bl, bl = b.length := ⟨_, rfl⟩
                rw [← hrn, ← hbl] at hap
                rw [← hbl] at hf d1
                have HRN := Lib.hid (And.intro hrn hbl)
                obtain ⟨Av, cv, hv⟩ := hRk.slice
                rw [← hrn] at hv
                obtain ⟨hf1, hf2⟩ := hf
                have hf1i : (0 : Int) < (bl : Int) := by omega
                have hf2i : (bl : Int) ≤ 2048 := by omega
                have d2 : ∀ w3 : World, Below w.heap.size w w3 → w3.cell? (ad.add j) = some (.slice Ai bl ci) := fun w3 hb3 => by
                  have := pw_cell_below hb3 d0
                  rw [this, hbl]
                have HD := Lib.hid d2
                subst hv
                clear d0 d2 hb hbm hap2 hM2 hrow2 hrk hRk hCb hci hrn hbl hMk Lk
                go_wp2_with fail
                refine hap.mono ?_
                rintro e w4 ⟨x4, rfl, hs4, L4, T4⟩
                have d3 := HD.out _ L4.base
                have hlg4 : x4.lg = lg := hs4.1.trans hlk
                obtain ⟨hrk, hRk, hCb, hci, Lk⟩ := HJ.out
                have hR4 := hRk.stp T4
                have hvb : ∀ q, (Value.slice Av rn cv).ownBlock = some q → w.heap.size ≤ q := fun q e => by
                  obtain ⟨zs, h1, _⟩ := hR4
                  exact (h1.lt q e).1
                obtain ⟨A5, c5, w5, hrun, hR5, hk5, hs5, hg5, _⟩ := hR4.push L4.base.size (fun k hk => L4.nlt (.inl hk)) Ai ci b hci (Kd.F_mono (F_came (Kd.heap_int .u8) hCb L4.base) fun k hk => ⟨L4.nlt (.inr hk), fun e => by have := hvb k e; omega⟩) (by omega)
                have hbx : Below w.heap.size w (w4.alloc (.cells #[.slice Ai b.length ci] 32)) := L4.base.alloc L4.base.size _
                have hb5 : Below w.heap.size w w5 := hbx.grown hg5 hbx.size (fun k e => hvb k e)
                have hvt : ∀ q, (Value.slice Av rn cv).ownBlock = some q → ¬ LF x4 q ∧ ∃ cs, w4.heap[q]? = some (.cells cs 32 (0, 0)) := fun q e => by
                  obtain ⟨zs, h1, h2, _⟩ := hR4
                  exact ⟨h2 q e, (h1.lt q e).2.2⟩
                have L5 := L4.but hb5 hs5 fun k hk hh => hk5 k hk fun e => by
                  obtain ⟨q1, cs, q2⟩ := hvt k e
                  rcases hh with hh | ⟨cs2, hh⟩
                  · exact q1 hh
                  · rw [q2] at hh; cases hh
                rw [← HRN.out.1] at hrun hR5
                rw [← HRN.out.2] at hrun
                rw [← HM2.out.2] at hR5
                have HRun := Lib.hid hrun
                have HF := Lib.hid (And.intro hlg4 (And.intro L5 (And.intro HM2.out.1 hR5)))
                have HKK := Lib.hid hrk
                clear hs4 L4 T4 hlg4 hrk hRk hCb hci Lk hR4 hvb hrun hR5 hk5 hs5 hg5 hbx hb5 hvt L5 hap d1
                go_wp2_with (at_builtin; refine wp_append_run rfl _ _ 22 (by rfl) _ _ _ (by rfl) (by rfl) HRun.out ?_)
                go_roundw
                case rel => exact ⟨j + 1, x4, s', by omega, by omega, by go_num, HF.out.1, HF.out.2.1, HF.out.2.2.1, by rw [HM2.out.2, List.length_append, List.length_singleton]; have := HKK.out; omega, HF.out.2.2.2⟩
                case measure => simp only [intOf]; omega
              · rw [if_neg hf] at hma
                rw [hma] at hap
                obtain ⟨bl, hbl⟩ : ∃ bl, bl = b.length := ⟨_, rfl⟩
                rw [← hbl] at hap hf
                have HM2 := Lib.hid (And.intro hMk hbl)
                have HD : Hid (∀ w3 : World, Below w.heap.size w w3 → w3.cell? (ad.add j) = some (.slice Ai bl ci)) := Lib.hid fun w3 hb3 => by
                  have := pw_cell_below hb3 d0
                  rw [this, hbl]
                rw [← hbl] at d1
                clear d0 hb hbm hma hrk hRk hCb hci hbl hMk Lk
                by_cases hz : bl = 0
                · subst hz
                  clear hf
                  go_wp2_with fail
                  refine hap.mono ?_
                  rintro e w4 ⟨x4, rfl, hs4, L4, T4⟩
                  have d3 := HD.out _ L4.base
                  have HF := Lib.hid (And.intro (hs4.1.trans hlk) (And.intro L4 T4))
                  clear hs4 L4 T4 hap d1
                  go_wp2_with fail
                  go_roundw
                  case rel => exact ⟨j + 1, x4, sk, by omega, by omega, by go_num, HF.out.1, HF.out.2.1, HM2.out.1, by have := HJ.out.1; omega, HJ.out.2.1.stp HF.out.2.2⟩
                  case measure => simp only [intOf]; omega
                · have hz1 : (0 : Int) < (bl : Int) := by omega
                  have hz2 : (2048 : Int) < (bl : Int) := by omega
                  clear hf
                  go_wp2_with fail
                  refine hap.mono ?_
                  rintro e w4 ⟨x4, rfl, hs4, L4, T4⟩
                  have d3 := HD.out _ L4.base
                  have HF := Lib.hid (And.intro (hs4.1.trans hlk) (And.intro L4 T4))
                  clear hs4 L4 T4 hap d1
                  go_wp2_with fail
                  go_roundw
                  case rel => exact ⟨j + 1, x4, sk, by omega, by omega, by go_num, HF.out.1, HF.out.2.1, HM2.out.1, by have := HJ.out.1; omega, HJ.out.2.1.stp HF.out.2.2⟩
                  case measure => simp only [intOf]; omega
            · have hx3 : ((j : Int) < (ll : Int) ∧ (40 : Int) ≤ (j : Int)) ∨ (ll : Int) ≤ (j : Int) := by omega
              have hrow := row_calls Lk
              obtain ⟨Av, cv, hv, _, hCv⟩ := hRk.reads
              have hbb := Lk.base
              rw [hlk] at hrow
              have HJ := Lib.hid (And.intro hRk (And.intro hbb hrk))
              obtain ⟨rn, hrn⟩ : ∃ rn, rn = sk.row.length := ⟨_, rfl⟩
              rw [← hrn] at hv
              have HRN := Lib.hid hrn
              subst hv
              clear hlt2 hRk hCv hMk Lk hbb hrn hrk
              rcases hx3 with ⟨hx3, hx4⟩ | hx3
              all_goals
                go_wp2_with fail
                refine hrow.mono ?_
                rintro e w5 ⟨v5, rfl, hI5⟩
                obtain ⟨A5, c5, hv5, _, _, hC5⟩ := hI5.1.reads
                have hR5 := HJ.out.1.below hI5.2.1
                obtain ⟨A6, c6, e6, _, hC6⟩ := hR5.reads
                subst hv5
                have e6a : Av = A6 := by
                  injection e6
                rw [← e6a] at hC6
                clear e6 e6a
                have hls := lists_calls _ c5 _ _ cv _ w5 hC5 hC6
                rw [same_refl] at hls
                have HB5 := Lib.hid (below_then HJ.out.2.1 HJ.out.2.1.size hI5.2.1)
                rw [← HRN.out] at hls ⊢
                clear hrow hI5 hC5 hR5 hC6
                go_wp2_with fail
                refine hls.mono ?_
                rintro e w6 ⟨rfl, hd⟩
                have HB6 := Lib.hid (below_then HB5.out HB5.out.size hd.below)
                clear hls hd
                go_wp2_with fail
                go_ret
                exact ⟨rfl, HB6.out⟩
      · have hq1 : 2 * (reachN rs m : Int) ≤ (m : Int) := by omega
        obtain ⟨s1, he1, ho1, hrow1, hsl1⟩ := minor_none rs m (by have := HM.out; omega) hqm
        rw [he1] at hop
        have HM1 := Lib.hid (And.intro ho1 (And.intro hrow1 hsl1))
        clear ho1 hrow1 hsl1 he1 hqm hrm
        have hx : ((k : Int) < (m : Int) ∧ (rl : Int) ≤ (k : Int)) ∨ (m : Int) ≤ (k : Int) := by omega
        clear hlt
        rcases hx with ⟨hx1, hx2⟩ | hx1
        all_goals
          go_wp2_with fail
          refine hop.mono ?_
          rintro e w3 ⟨x3, rfl, hs3, L3, T3⟩
          have HS3 := Lib.hid (And.intro (hs3.1.trans HLG.out.symm) L3)
          clear hs3 L3 T3 hop
          go_wp2_with fail
          go_loopw [14, 15] (fun v i wx => ∃ (j : Nat) (xk : LB), j ≤ ll ∧ j ≤ 40 ∧ i = .int .i64 j ∧ v = .slice none 0 0 ∧ xk.lg = lg ∧ Lg w wx xk 1048576 s1) (fun _ i _ => ll - (intOf i).toNat)
          case atStart => exact ⟨0, x3, Nat.zero_le _, by decide, rfl, rfl, HS3.out⟩
          case round =>
            obtain ⟨j, xk, hj, hj40, rfl, rfl, hlk, Lk⟩ := hrel
            rename World => wx
            have hj0 : (0 : Int) ≤ (j : Int) := by omega
            by_cases hlt2 : j < ll ∧ j < 40
            · obtain ⟨hj1, hj2⟩ := hlt2
              have hj1i : (j : Int) < (ll : Int) := by omega
              have hj2i : (j : Int) < 40 := by omega
              obtain ⟨ad, b, Ai, ci, rfl, hb, d0, hci, hCb⟩ := Slot.at_row HK.out j (by rw [← HLL.out]; exact hj1)
              have hbm := List.mem_of_getElem? hb
              have d1 := pw_cell_below Lk.base d0
              have hap := lappend_calls Lk (fun e => by have h := HM1.out.2.2; rw [e] at h; have := HM.out; simp only [List.length_nil] at h; omega) Ai ci b A2 c2 rs (Lg.came (Kd.heap_int .u8) Lk hCb) hci (HBy.out b hbm) (HBl.out b hbm) (Lg.came Kd.heap_bool Lk HR.out)
              have hma : appendF 1048576 b rs s1 = (0, 8, s1) := by unfold appendF; rw [if_pos HM1.out.1]
              rw [hlk, ← HRL.out, hma] at hap
              obtain ⟨bl, hbl⟩ : ∃ bl, bl = b.length := ⟨_, rfl⟩
              rw [← hbl] at hap d1
              have HD : Hid (∀ w3 : World, Below w.heap.size w w3 → w3.cell? (ad.add j) = some (.slice Ai bl ci)) := Lib.hid fun w3 hb3 => by
                have := pw_cell_below hb3 d0
                rw [this, hbl]
              clear d0 hb hbm hma hCb hci hbl Lk
              go_wp2_with fail
              refine hap.mono ?_
              rintro e w4 ⟨x4, rfl, hs4, L4, T4⟩
              have d3 := HD.out _ L4.base
              have HF := Lib.hid (And.intro (hs4.1.trans hlk) L4)
              clear hs4 L4 T4 hap d1
              go_wp2_with fail
              all_goals
                go_roundw
                case rel => exact ⟨j + 1, x4, by omega, by omega, by go_num, rfl, HF.out⟩
                case measure => simp only [intOf]; omega
            · have hx3 : ((j : Int) < (ll : Int) ∧ (40 : Int) ≤ (j : Int)) ∨ (ll : Int) ≤ (j : Int) := by omega
              have hrow := row_calls Lk
              have hbb := Lk.base
              rw [hlk, HM1.out.2.1] at hrow
              have HJ := Lib.hid hbb
              clear hlt2 Lk hbb
              rcases hx3 with ⟨hx3, hx4⟩ | hx3
              all_goals
                go_wp2_with fail
                refine hrow.mono ?_
                rintro e w5 ⟨v5, rfl, hI5⟩
                obtain ⟨A5, c5, hv5, _, _, hC5⟩ := hI5.1.reads
                subst hv5
                have hls := lists_calls _ c5 _ none 0 [] w5 hC5 (Kd.C_nil _ _)
                rw [same_refl] at hls
                have HB5 := Lib.hid (below_then HJ.out HJ.out.size hI5.2.1)
                clear hrow hI5 hC5
                go_wp2_with fail
                refine hls.mono ?_
                rintro e w6 ⟨rfl, hd⟩
                have HB6 := Lib.hid (below_then HB5.out HB5.out.size hd.below)
                clear hls hd
                go_wp2_with fail
                go_ret
                exact ⟨rfl, HB6.out⟩
end Go.Proofs.YtiinelmednbpmaaGreat.Slog
