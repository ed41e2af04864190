import Derived.Test.YtnnahbmhjjamcaaQColl
/- The walk of Merge: the walk of Merge. -/
namespace Go.Proofs.Ytnnahbmhjjamcaa.Quor
open Go.RowKit Go.Maps Go.Proofs.YtnnahbmhjjamcaaW.PrintWords Go.Proofs.Ytnnahbmhjjamcaa.Cut
structure II where
  a : Int
structure SS where
  A : Option Addr
  n : Nat
  c : Nat
set_option maxRecDepth 100000 in
set_option maxHeartbeats 8000000 in
theorem merge_calls (ls : List (List C3)) (A : Option Addr) (c : Nat) (w : World) (hC : (Kd.slice 28 KC).C w A ls.length ls) (hW : ∀ l ∈ ls, ∀ x ∈ l, W64 x.1 ∧ x.2.2.length ≤ 140737488355328) (hn : ls.flatten.length ≤ 1000000) :
    Calls Try.prog 9 #[.slice A ls.length c] w fun e w' => ∃ v out, e = .returned v ∧ K4.R 28 w' w.heap.size (fun _ => True) v out ∧ (∀ z ∈ out, OwnB w' w.heap.size z) ∧ out.map C4.c3 = mergeM ls.flatten ∧ Below w.heap.size w w' := by
  have hmm := @run_makeMap Try.prog
  have HC := Lib.hid hC
  have HW := Lib.hid hW
  have hlm : ls.length ≤ 9223372036854775807 := hC.2.1
  obtain ⟨n, hnl⟩ : ∃ n, n = ls.length := ⟨_, rfl⟩
  rw [← hnl] at HC hlm ⊢
  have HN := Lib.hid hnl
  have HT := Lib.hid hn
  clear hC hW hnl hn
  go_enter Try.func9, Try.ntmps9
  go_wp2
  go_loopw [14] (fun i wx => ∃ k : Nat, k ≤ n ∧ i = .int .i64 k ∧ Gath w wx (ls.take k).flatten) (fun i _ => n - (intOf i).toNat)
  case atStart => exact ⟨0, Nat.zero_le _, rfl, [], _, _, rfl, by simp, Grp.start w _, (Below.refl _ _).alloc (Nat.le_refl _) _⟩
  case round =>
    obtain ⟨k, hk, rfl, hG⟩ := hrel
    have HG := Lib.hid hG
    by_cases hlt : k < n
    · have hlti : (k : Int) < (n : Int) := by omega
      have hk0 : (0 : Int) ≤ (k : Int) := by omega
      obtain ⟨zs0, D0, V0, hz0, hz1, hz2, hB⟩ := hG
      obtain ⟨ad, l, B, d, rfl, hl, a0, hlc, hCl⟩ := at_KR HC.out k hlt
      have a0 := cell_step (grown_of_below hB) a0 (by simp)
      have HL := Lib.hid (And.intro hl hCl)
      have hlm2 : l.length ≤ 9223372036854775807 := hCl.2.1
      obtain ⟨m, hm⟩ : ∃ m, m = l.length := ⟨_, rfl⟩
      rw [← hm] at hlc a0 hlm2
      have HM := Lib.hid hm
      clear hz0 hz1 hz2 hB hl hCl hm hlc
      go_wp2_with fail
      go_loopw [20] (fun i wx => ∃ j : Nat, j ≤ m ∧ i = .int .i64 j ∧ Gath w wx ((ls.take k).flatten ++ l.take j)) (fun i _ => m - (intOf i).toNat)
      case atStart => exact ⟨0, Nat.zero_le _, rfl, by rw [List.take_zero, List.append_nil]; exact HG.out⟩
      case round =>
        clear HG a0
        obtain ⟨j, hj, rfl, hG⟩ := hrel
        by_cases hlj : j < m
        · have hji : (j : Int) < (m : Int) := by omega
          have hj0 : (0 : Int) ≤ (j : Int) := by omega
          obtain ⟨zs, D, V, hz, hrd, hgrp, hB⟩ := hG
          obtain ⟨ad2, z, rfl, hzl, hRd, d0, d1, d2⟩ := at_KC (by have := HL.out.2; rw [← HM.out] at this; exact this) j hlj
          have d0 := cell_step (grown_of_below hB) d0 (by simp)
          have d1 := cell_step (grown_of_below hB) d1 (by simp)
          have d2 := cell_step (grown_of_below hB) d2 (by simp)
          obtain ⟨za, ze, zb, zA, zc⟩ := z
          simp only at d0 d1 d2
          go_upto_block 3 with fail
          go_cut [33] (fun _ wx => Gath w wx ((ls.take k).flatten ++ l.take (j + 1)))
          case first =>
            have hza : W64 za ∧ zb.length ≤ 140737488355328 := HW.out l (List.mem_of_getElem? HL.out.1) _ (List.mem_of_getElem? hzl)
            have HE := Lib.hid (And.intro hz (And.intro hrd (And.intro hRd (And.intro hza hzl))))
            have hbl : w.heap.size < wr.heap.size := hgrp.map.lt
            have hgne : some wr.heap.size ≠ (V za).ownBlock := fun e => by
              have := Kd.R_lt (hgrp.row za hza.1) _ e.symm
              omega
            have hg1 := hgrp.grown (World.grownBy_alloc wr (.cells #[.int .i64 za, .int .i64 ze, .slice zA zb.length zc] 28) none)
            have hb1 := hB.alloc hB.size (.cells #[.int .i64 za, .int .i64 ze, .slice zA zb.length zc] 28)
            have hr1 := (MapKept.heap_alloc wr (.cells #[.int .i64 za, .int .i64 ze, .slice zA zb.length zc] 28)).1
            clear hz hrd hgrp hB hRd
            go_upto_region 8 with fail
            clear d0 d1 d2
            generalize wr.alloc (.cells #[.int .i64 za, .int .i64 ze, .slice zA zb.length zc] 28) = W1 at *
            generalize wr.heap.size = g at *
            generalize hb : w.heap.size = b at *
            have z0 := (blk_cell hr1 0).trans rfl
            have z1 := (blk_cell hr1 1).trans rfl
            have z2 := (blk_cell hr1 2).trans rfl
            obtain ⟨vA, vc, hV⟩ := hg1.slice hza.1
            have hlk : ∀ W row, W1.grownBy W row → some b ≠ row → (Instr.lookup 45 (.map (some b)) (.int .i64 za) false).run Try.prog W = .ok (.slice vA (grp zs za).length vc) W := by
              intro W row h1 h2
              have h3 := (World.ownsMap.kept hg1.map h1 h2).lookup keyedI Try.underlying45 (z := .slice none 0 0) (by kernel_rfl) (RV_mk _ _ _) (keyOf_I hza.1)
              obtain ⟨v, ps, hrun, hv⟩ := h3
              rw [(hg1.at_ za hza.1).1, hV] at hv
              obtain ⟨A, n, c, rfl, e⟩ := RV_inv hv
              injection e with e _
              injection e with e
              rw [e]; exact hrun
            have hzl2 : zs.length ≤ 1000000 := by
              have h1 := flat_le (j := j) HL.out.1
              have h2 := HT.out
              have h3 := congrArg List.length HE.out.1
              rw [List.length_map] at h3
              omega
            have hgl := grp_len zs za
            have hrow := K4_inner (hg1.row za hza.1)
            rw [hV] at hrow
            have hne := map_ne_row hg1.map (hg1.row za hza.1)
            rw [hV] at hne hgne
            have HG1 := Lib.hid (And.intro hg1 (And.intro hb1 hr1))
            have HHB := Lib.hid hb
            have HHV := Lib.hid hV
            have L1 := Lib.hid (hlk W1.drew none (grown_drew (World.grownBy.refl _ _)) (by simp))
            have L2 := Lib.hid (hlk (W1.alloc (.cells #[.int .i64 za, .int .i64 ze, .slice zA zb.length zc] 28)).drew none (grown_drew (World.grownBy_alloc _ _ _)) (by simp))
            have HLK := Lib.hid hlk
            obtain ⟨i0, hi0, hq0, hq1, hq2⟩ := info_parts infoCell
            have HZL := Lib.hid hzl
            have hgz : g < W1.heap.size := (Array.getElem?_eq_some_iff.1 hr1).1
            have hbs : b ≤ W1.heap.size := by omega
            clear hlk hg1 hb1 hr1 hb hV a0 d0 d1 d2 hzl
            have hl3 : (grp zs za).length + 1 ≤ maxLen := by unfold maxLen; omega
            have hl4 : ((grp zs za).length + 1) * 40 ≤ 140737488355328 := by omega
            have gl1 : g < W1.heap.size := (Array.getElem?_eq_some_iff.1 HG1.out.2.2).1
            have gl2 : g ≠ W1.heap.size := by omega
            have gl3 : W1.heap.size ≠ g := by omega
            have HST := Lib.hid (fun w1 w2 gg cap h1 h2 h3 h4 h5 => by
              have h := gath_step (w1 := w1) (w2 := w2) (gg := gg) (cap := cap) (z := ⟨za, ze, zb, zA, zc⟩) HHB.out HE.out.1 HE.out.2.1 HE.out.2.2.1 hza.1 HG1.out.1 HG1.out.2.1 HHV.out h1 h2 h3 h4 h5
              rw [List.append_assoc, ← take_snoc'' HZL.out] at h
              exact h)
            have l1 := L1.out
            have l2 := L2.out
            go_region_law (first
              | (refine step_append_lies _ (by rfl) _ _ _ (by rfl) b 28 i0 _ 3 40 Try.underlying31 hi0 hq0 hq1 hq2 rfl (by omega) (.slice vA (grp zs za).length vc) (grp zs za).length _ (by rfl) ((hrow.alloc _).drew) ⟨W1.heap.size, 0, none⟩ 1 1 [.int .i64 za, .int .i64 ze, .slice zA zb.length zc] (by rfl) (by rfl) (World.news_of_block (cs := #[.int .i64 za, .int .i64 ze, .slice zA zb.length zc]) (t := 28) (fr := (0, 0)) (heap_alloc_new W1 _)) (by simp [Value.oneCell']) (by omega) hl3 hl4 (by simp; omega) (W1.heap.size + 1) (by simp) ?_; intro gg cap w1 hown1 hgrow hat hlt1; have hgA := ((grown_drew (World.grownBy_alloc W1 (.cells #[.int .i64 za, .int .i64 ze, .slice zA zb.length zc] 28) none)).but (Value.slice vA (grp zs za).length vc).ownBlock).trans hgrow; have k0 := cell_step hgA z0 hgne; have k1 := cell_step hgA z1 hgne; have k2 := cell_step hgA z2 hgne; have k3 := HLK.out w1 _ hgA hne; obtain ⟨w2, hrun, hown2, hg2⟩ := (World.ownsMap.kept HG1.out.1.map hgA hne).update keyedI Try.underlying45 (by unfold maxLen; omega) (keyOf_I hza.1) (RV_mk (some ⟨gg, 0, none⟩) ((grp zs za).length + 1) cap); have HX := Lib.hid (HST.out w1 w2 gg cap hown1 hgA hat hown2 hg2); clear hown1 hgrow hat hlt1 hgA hown2 hg2))
            all_goals
              clear hrun k0 k1 k2 k3
              go_wp2_with fail
              go_meet
              case rel => exact HX.out
          case rest =>
            have HX2 := Lib.hid hcut
            clear hcut
            go_wp2_with fail
            go_roundw
            case rel => exact ⟨j + 1, by omega, by go_num, HX2.out⟩
            case measure => simp [intOf]; omega
        · obtain rfl : j = m := by omega
          have e2 : l.take j = l := List.take_of_length_le (by rw [HM.out]; exact Nat.le_refl _)
          rw [e2] at hG
          have e1 : (ls.take (k + 1)).flatten = (ls.take k).flatten ++ l := by
            rw [take_snoc'' HL.out.1, List.flatten_append]; simp
          rw [← e1] at hG
          have HG2 := Lib.hid hG
          clear hG e1 e2
          go_wp2
          go_roundw
          case rel => exact ⟨k + 1, by omega, by go_num, HG2.out⟩
          case measure => simp [intOf]; omega
    · obtain rfl : k = n := by omega
      rw [List.take_of_length_le (by rw [HN.out]; exact Nat.le_refl _)] at hG
      obtain ⟨zs, D, V, hz, hrd, hgrp, hB⟩ := hG
      have hown := hgrp.map
      have hbz : w.heap.size < wr.heap.size := hgrp.map.lt
      have hzn : zs.length ≤ 1000000 := by rw [← List.length_map (f := C4.c3), hz]; exact HT.out
      have hwz : ∀ z ∈ zs, W64 z.at_ ∧ z.by_.length ≤ 140737488355328 := by
        intro z hzm
        have h1 : z.c3 ∈ ls.flatten := by rw [← hz]; exact List.mem_map_of_mem hzm
        obtain ⟨l, hl, hx⟩ := List.mem_flatten.1 h1
        exact HW.out l hl _ hx
      have HZ := Lib.hid (And.intro hz (And.intro hrd hwz))
      have HGR := Lib.hid (And.intro hgrp hB)
      clear hz hrd hwz hgrp hB HG
      go_wp2_with (first
        | (at_range; refine wpList_range_own _ rfl _ 45 rfl 3 31 keyedI Try.underlying45 RV w.heap.size zs.length D rfl hown ?_; intro w0 hrg0 hg0 hs0)
        | go_in)
      go_frame
      have hB0 := Lib.hid (show Below wr.heap.size wr w0 from (Below.refl _ _).grown hg0 (Nat.le_refl _) (fun j hj => by cases hj))
      obtain ⟨r, hr⟩ : ∃ r, wr.heap.size = r := ⟨_, rfl⟩
      rw [hr] at hrg0 hB0 ⊢
      have HR := Lib.hid hr
      go_loopw [8] (fun v wx => ∃ (left : Lit → Bool) (cnt : Nat) (out : List C4), wx.ranges Try.prog 3 RV w.heap.size r zs.length D left cnt ∧ cnt + out.length ≤ zs.length ∧ K4.R 28 wx r (fun _ => True) v out ∧ (∀ z ∈ out, OwnB wx r z) ∧ Coll zs left out ∧ Below r wr wx) (fun _ wx => wx.rangeLeft w.heap.size r)
      case atStart => exact ⟨_, _, [], hrg0, by have := hown.size_le; simpa using this, Kd.R_nil _ _ _ _ _, by simp, Coll.start HGR.out.1 (fun z hz => (HZ.out.2.2 z hz).1), hB0.out⟩
      case round =>
        clear hg0 hs0 hrg0 hown hB0
        obtain ⟨left, cnt, out, hrel⟩ := hrel
        have HRel := Lib.hid hrel
        have hrg := hrel.1
        clear hrel
        go_wp2_with (first
          | (at_next; refine wpList_next_ranges _ rfl _ rfl 3 keyedI RV (fun x : II => .int .i64 x.a) (fun x : SS => .slice x.A x.n x.c) (fun _ _ h => by obtain ⟨x, hx, _⟩ := keyOf_int_inv Try.underlying3 h; exact ⟨⟨x⟩, hx⟩) (fun _ _ h => by obtain ⟨A, n, c, hx, _⟩ := RV_inv h; exact ⟨⟨A, n, c⟩, hx⟩) w.heap.size r zs.length D left cnt rfl hrg ?_ ?_)
          | go_in)
        · intro hc0 hl0
          obtain ⟨_, hcn, hrow, hown, hcoll, hb⟩ := HRel.out
          have HX := Lib.hid (And.intro (And.intro hcoll hl0) (And.intro hrow (And.intro hown hb)))
          have hon : out.length ≤ 1000000 := by omega
          clear hrg hcn hrow hown hcoll hb HRel hl0 hr
          go_wp2_with (go_at_call 20; refine (sort_calls u8 out _ r (K4_inner HX.out.2.1) hon).mono ?_; rintro e w' ⟨rfl, out', hp, hs, hown', hg'⟩)
          have he := HX.out.1.1.done HX.out.1.2 hp (hs.imp (fun h => by omega))
          rw [HZ.out.1] at he
          have hb1 : Below r _ w' := HX.out.2.2.2.grown hg' (by rw [← HR.out]; exact HX.out.2.2.2.size) (fun j hj => Kd.R_base HX.out.2.1 j hj)
          have hlow : w.heap.size ≤ r := by rw [← HR.out]; exact Nat.le_of_lt hbz
          have hfin : Below w.heap.size w w' := below_then HGR.out.2 HGR.out.2.size (by rw [HR.out]; exact hb1)
          have hob : ∀ z ∈ out', OwnB w' w.heap.size z := fun z hz => ((HX.out.2.2.1 z (hp.mem_iff.1 hz)).kept HX.out.2.1 hg').low hlow
          have hkr : K4.R 28 w' w.heap.size (fun _ => True) u8 out' := Kd.R_lower (K4_of hown') hlow
          have HF := Lib.hid (And.intro hkr (And.intro hob (And.intro he hfin)))
          clear hp hs hown' hg' hfin hob hkr he hb1
          go_ret
          exact ⟨u8, out', by simp, HF.out.1, HF.out.2.1, HF.out.2.2.1, HF.out.2.2.2⟩
        · intro ⟨a⟩ ⟨vA, vn, vc⟩ kl y yp w1 cnt1 hkey hlk hv hat hrg1 hlt1 hg1 hs1 hen
          try simp only at hkey hv hen
          obtain ⟨a', ea, rfl, hwa⟩ := keyOf_int_inv Try.underlying3 hkey
          obtain rfl : a = a' := by injection ea
          rw [RV_mk] at hv
          have hv := Option.some.inj hv
          injection hv with hv1 hv2
          subst hv1; subst hv2
          have hVa : V a = .slice vA vn vc := by
            have h1 := hat (.held (.slice none 0 0))
            rw [(HGR.out.1.at_ a hwa).1] at h1
            injection h1
          have hne : grp zs a ≠ [] := by
            have h1 := (HGR.out.1.at_ a hwa).2
            rw [has_true_of_atKey hat] at h1
            exact of_decide_eq_true h1.symm
          obtain ⟨x, rs, hxr⟩ : ∃ x rs, grp zs a = x :: rs := by
            cases h : grp zs a with
            | nil => exact absurd h hne
            | cons x rs => exact ⟨x, rs, rfl⟩
          obtain ⟨hrg, hcn, hrow, hown, hcoll, hb⟩ := HRel.out
          have hR0 := HGR.out.1.row a hwa
          rw [hVa, hxr] at hR0
          obtain ⟨A1, c1, e1, hle1, hC1⟩ := Kd.R_reads hR0
          injection e1 with e1 e2 e3
          subst e1; subst e3
          have hb1 : Below r _ w1 := hb.grown hg1 (by rw [← HR.out]; exact hb.size) (fun j hj => by cases hj; exact Nat.le_refl _)
          have hC2 := Kd.C_below hC1 (by rw [HR.out]; exact hb1)
          have hzn2 : (x :: rs).length ≤ 1000000 := by rw [← hxr]; exact Nat.le_trans (grp_len zs a) hzn
          have hbest := best_calls x rs vA vc w1 hC2 hle1 hzn2
          rw [← e2] at hbest
          have hmz : bestF x rs ∈ zs := by
            have h1 := bestF_mem rs x
            rw [← hxr] at h1
            exact (List.mem_filter.1 h1).1
          obtain ⟨o, ho, hon⟩ := iter_obj hrg
          have hrow1 := R_grown_obj (d := K4) rfl hrow ho hon hg1
          have hown1 : ∀ z ∈ out, OwnB w1 r z := fun z hz => R_grown_obj (d := Kd.int .u8) rfl (hown z hz) ho hon hg1
          have HX := Lib.hid (And.intro (And.intro hrg1 (And.intro hlt1 hrg.left_eq)) (And.intro (And.intro hrow1 hown1) (And.intro hb1 (And.intro hcn hcoll))))
          have HY := Lib.hid (And.intro hwa (And.intro hxr (And.intro hlk hmz)))
          have hRd := RdB.below (HZ.out.2.1 _ hmz).1 HGR.out.2
          have hRd1 := RdB.below hRd (by rw [HR.out]; exact hb1)
          have HRd := Lib.hid hRd1
          have hbl := (HZ.out.2.2 _ hmz).2
          unfold agg4 at hbest
          generalize hzq : bestF x rs = z at *
          have HZQ := Lib.hid hzq
          clear hzq e2
          obtain ⟨za, ze, zb, zA, zc⟩ := z
          simp only at hbest hbl
          clear hrg hcn hrow hown hcoll hb hR0 hC1 hC2 hb1 hrow1 hown1 hrg1 hlt1 hg1 hs1 hkey hlk hat HRel hRd hRd1 hxr hne hVa hmz ho hon hle1 ea
          go_wp2_with fail
          refine hbest.mono ?_
          rintro e w2 ⟨rfl, hb2⟩
          have HB2 := Lib.hid hb2
          have how := own_calls ⟨za, ze, zb, zA, zc⟩ w2 (RdB.below HRd.out hb2) hbl
          simp only at how
          clear hbest hb2
          go_wp2_with fail
          refine how.mono ?_
          rintro e w3 ⟨z', rfl, hz3, hoz, hb3⟩
          obtain ⟨ya, ye, yb, yA, yc⟩ := z'
          simp only
          have hB3 := below_then HB2.out HB2.out.size hb3
          have hrow3 := Kd.R_below HX.out.2.1.1 hB3
          have hown3 : ∀ z ∈ out, OwnB w3 r z := fun z hz => (HX.out.2.1.2 z hz).below hB3
          have hrs : r ≤ w1.heap.size := by have h1 := HX.out.2.2.1.size; have h2 := HR.out; omega
          have hoz3 : OwnB w3 r ⟨ya, ye, yb, yA, yc⟩ := hoz.low (Nat.le_trans hrs HB2.out.size)
          have hrg3 := HX.out.1.1.kept (grown_of_below hB3) (by simp) (by simp)
          have hb33 : Below r _ w3 := HX.out.2.2.1.grown (grown_of_below hB3) (by have h1 := HX.out.2.2.1.size; have h2 := HR.out; omega) (fun j hj => by cases hj)
          have H3 := Lib.hid (And.intro hrow3 (And.intro hown3 (And.intro hoz3 (And.intro hrg3 hb33))))
          have HZ3 := Lib.hid hz3
          have hrs3 : r ≤ w3.heap.size := Nat.le_trans hrs hB3.size
          have hl40 : (out.length + 1) * 40 ≤ 140737488355328 := by have := HX.out.2.2.2.1; omega
          clear how hz3 hoz hb3 hB3 hrow3 hown3 hoz3 hrg3 hb33 hr
          go_wp2_with (first
            | ((with_reducible refine gate_builtin (b := .append) (xs := #[.tmp 42, .tmp 46]) rfl ?_); at_builtin; refine Kd.R_append K4 (w0 := w3) r rfl (.tmp 42) (.tmp 46) 31 28 (.agg #[.int .i64 0, .int .i64 0, .slice none 0 0]) 40 rfl Try.underlying31 infoCell rfl (by decide) (by decide) u8 out ⟨ya, ye, yb, yA, yc⟩ (enc4 ⟨ya, ye, yb, yA, yc⟩) (fun _ => True) (fun _ => False) rfl rfl rfl (fun _ hk => hk.elim) (fun _ _ => trivial) H3.out.1 (Below.refl _ _) hrs3 hl40 ?_; intro v1 w4 hR4 hb4 hg4 hat4)
            | go_in)
          have hrg4 := H3.out.2.2.2.1.kept hg4 (map_ne_row H3.out.2.2.2.1.owns H3.out.1) (iter_ne_row H3.out.2.2.2.1 H3.out.1)
          refine ⟨⟨_, cnt1, out ++ [⟨ya, ye, yb, yA, yc⟩], hrg4, ?_, hR4, ?_, ?_, ?_⟩, ?_⟩
          · have h1 := HX.out.2.2.2.1; have h2 := HX.out.1.2.1; rw [List.length_append, List.length_singleton]; omega
          · intro z hz
            rcases List.mem_append.1 hz with hz | hz
            · exact (H3.out.2.1 z hz).kept H3.out.1 hg4
            · obtain rfl : z = ⟨ya, ye, yb, yA, yc⟩ := by simpa using hz
              exact H3.out.2.2.1.kept H3.out.1 hg4
          · exact HX.out.2.2.2.2.step (fun z hz => (HZ.out.2.2 z hz).1) HY.out.1 HY.out.2.1 HY.out.2.2.1 (by rw [HZ3.out, HZQ.out])
          · exact H3.out.2.2.2.2.grown hg4 (by have h1 := H3.out.2.2.2.2.size; have h2 := HR.out; omega) (fun j hj => Kd.R_base H3.out.1 j hj)
          · rw [hrg4.left_eq, HX.out.1.2.2]; exact HX.out.1.2.1
end Go.Proofs.Ytnnahbmhjjamcaa.Quor
