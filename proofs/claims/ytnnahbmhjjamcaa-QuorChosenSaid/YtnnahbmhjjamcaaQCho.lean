import Derived.Test.YtnnahbmhjjamcaaQChoP
import Derived.Test.YtnnahbmhjjamcaaWGuard
import Derived.Lib.MinMax
/- QuorChosen: the walk. -/
namespace Go.Proofs.Ytnnahbmhjjamcaa.Quor
open Go.RowKit Go.Maps Go.Proofs.YtnnahbmhjjamcaaW.PrintWords Go.Proofs.YtnnahbmhjjamcaaW.PrintMore Go.Proofs.Ytnnahbmhjjamcaa.Cut
/-- A row of one cell that was just laid. -/
theorem row1_own {W : World} {base g : Nat} {z : C4} (hg : W.heap[g]? = some (.cells #[.int .i64 z.at_, .int .i64 z.ep, .slice z.A z.by_.length z.c] 28 (0, 0))) (hb : base ≤ g) : K4.R 28 W base (fun _ => True) (.slice (some ⟨g, 0, none⟩) 1 1) [z] :=
  K4_of ⟨rfl, .inr ⟨g, 1, _, rfl, hb, hg, Nat.le_refl _, by decide, rfl, rfl⟩⟩
def repl (z : C4) (m j : Nat) : List (List C4) := List.replicate (min j m) [z] ++ List.replicate (j - m) []
theorem repl_in {z : C4} {m j : Nat} (h : j < m) : repl z m (j + 1) = repl z m j ++ [[z]] := by
  unfold repl
  rw [show min (j + 1) m = min j m + 1 from by omega, show j + 1 - m = 0 from by omega, show j - m = 0 from by omega, List.replicate_succ']
  simp
theorem repl_out {z : C4} {m j : Nat} (h : m ≤ j) : repl z m (j + 1) = repl z m j ++ [[]] := by
  unfold repl
  rw [show min (j + 1) m = min j m from by omega, show j + 1 - m = (j - m) + 1 from by omega, List.replicate_succ', List.append_assoc]
theorem repl_len (z : C4) (m j : Nat) : (repl z m j).length = j := by
  unfold repl
  rw [List.length_append, List.length_replicate, List.length_replicate]; omega
theorem reps_flat_len (c o : C3) (m r : Nat) : (repsM c m r ++ [[o]]).flatten.length = m + 1 := by
  unfold repsM
  have h1 : (List.replicate m [c]).flatten = List.replicate m c := by
    induction m with
    | zero => rfl
    | succ m ih => rw [List.replicate_succ, List.flatten_cons, ih, List.replicate_succ]; rfl
  have h2 : (List.replicate r ([] : List C3)).flatten = [] := by
    induction r with
    | zero => rfl
    | succ r ih => rw [List.replicate_succ, List.flatten_cons, ih]; rfl
  rw [List.flatten_append, List.flatten_append, h1, h2]
  simp
set_option maxRecDepth 100000 in
set_option maxHeartbeats 8000000 in
theorem chosenLaw_walk (n many : Int) (hn0 : 0 ≤ n) (hn1 : n ≤ 255) (hm0 : 0 ≤ many) (hm1 : many ≤ 255) (cz oz : C4) (w : World) (hz : RdB w cz ∧ W64 cz.at_ ∧ cz.by_.length ≤ 140737488355328) (ho : RdB w oz ∧ W64 oz.at_ ∧ oz.by_.length ≤ 140737488355328) :
    Calls Try.prog 6 #[.int .u8 n, .int .u8 many, encV cz, encV oz] w fun e w' => e = .returned (.bool true) ∧ Below w.heap.size w w' := by
  obtain ⟨za, ze, zb, zA, zc⟩ := cz
  obtain ⟨ya, ye, yb, yA, yc⟩ := oz
  have HZ := Lib.hid hz
  have HO := Lib.hid ho
  have hb0 := ((Below.refl w.heap.size w).alloc (Nat.le_refl _) (.cells #[.int .i64 za, .int .i64 ze, .slice zA zb.length zc] 28)).alloc (by simp) (.cells #[.int .i64 ya, .int .i64 ye, .slice yA yb.length yc] 28)
  have hr1 := (MapKept.heap_alloc (w.alloc (.cells #[.int .i64 za, .int .i64 ze, .slice zA zb.length zc] 28)) (.cells #[.int .i64 ya, .int .i64 ye, .slice yA yb.length yc] 28)).1
  have hr0 := ((MapKept.heap_alloc (w.alloc (.cells #[.int .i64 za, .int .i64 ze, .slice zA zb.length zc] 28)) (.cells #[.int .i64 ya, .int .i64 ye, .slice yA yb.length yc] 28)).2 _ (by simp)).trans (MapKept.heap_alloc w (.cells #[.int .i64 za, .int .i64 ze, .slice zA zb.length zc] 28)).1
  rw [show (w.alloc (.cells #[.int .i64 za, .int .i64 ze, .slice zA zb.length zc] 28)).heap.size = w.heap.size + 1 from by simp] at hr1
  have HB0 := Lib.hid hb0
  have HR0 := Lib.hid hr0
  have HR1 := Lib.hid hr1
  have hsh := shown_calls ((w.alloc (.cells #[.int .i64 za, .int .i64 ze, .slice zA zb.length zc] 28)).alloc (.cells #[.int .i64 ya, .int .i64 ye, .slice yA yb.length yc] 28))
  clear hz ho hb0 hr1 hr0
  simp only [encV]
  go_enter Try.func6, Try.ntmps6
  go_wp2_with fail
  refine hsh.mono ?_
  rintro e w1 ⟨rfl, hb1⟩
  have HQ0 := Lib.hid (blk_grown HR0.out (grown_of_below hb1) (by simp))
  have HQ1 := Lib.hid (blk_grown HR1.out (grown_of_below hb1) (by simp))
  have HB1 := Lib.hid (below_then HB0.out HB0.out.size hb1)
  have hwl : w.heap.size + 1 < w1.heap.size := (Array.getElem?_eq_some_iff.1 HQ1.out).1
  clear hsh hb1 HB0 HR0 HR1
  obtain ⟨k, hk⟩ : ∃ k : Nat, 1 + n % 9 = (k : Int) := ⟨(1 + n % 9).toNat, by omega⟩
  have hk1 : 1 ≤ k := by omega
  have hk9 : k ≤ 9 := by omega
  obtain ⟨m, hm⟩ : ∃ m : Nat, many % ((k : Int) + 1) = (m : Int) := ⟨(many % ((k : Int) + 1)).toNat, by have := Int.emod_nonneg many (b := (k : Int) + 1) (by omega); omega⟩
  have hmk : m ≤ k := by have := Int.emod_lt_of_pos many (b := (k : Int) + 1) (by omega); omega
  have hkne : ¬ (k : Int) + 1 = 0 := by omega
  go_wp2_with fail
  try rw [hk]
  try rw [hm]
  clear hk hm hkne hn0 hn1 hm0 hm1
  go_loopw [12, 13] (fun v i wx => ∃ (j : Nat) (xss : List (List C4)), j ≤ k ∧ i = .int .i64 j ∧ KN.R 31 wx w1.heap.size (fun _ => True) v xss ∧ xss = repl ⟨za, ze, zb, zA, zc⟩ m j ∧ Below w1.heap.size w1 wx) (fun _ i _ => k - (intOf i).toNat)
  case atStart => exact ⟨0, [], Nat.zero_le _, rfl, Kd.R_nil _ _ _ _ _, by simp [repl], Below.refl _ _⟩
  case round =>
    obtain ⟨j, xss, hj, rfl, hR, hx, hB⟩ := hrel
    rename World => wx
    have hlx : xss.length = j := by rw [hx]; exact repl_len _ _ _
    have hl24 : (xss.length + 1) * 24 ≤ 140737488355328 := by omega
    have HX := Lib.hid (And.intro hR (And.intro hx hB))
    have hq0 := blk_grown HQ0.out (grown_of_below hB) (by simp)
    have c0 := (blk_cell hq0 0).trans rfl
    have c1 := (blk_cell hq0 1).trans rfl
    have c2 := (blk_cell hq0 2).trans rfl
    have hgs : w.heap.size < wx.heap.size := (Array.getElem?_eq_some_iff.1 hq0).1
    clear hR hx hB hq0 hlx
    by_cases hjk : j < k
    · have hjki : (j : Int) < (k : Int) := by omega
      have hj0 : (0 : Int) ≤ (j : Int) := by omega
      by_cases hjm : j < m
      · have hjmi : (j : Int) < (m : Int) := by omega
        have HRW := Lib.hid (row1_own (z := ⟨za, ze, zb, zA, zc⟩) (MapKept.heap_alloc wx (.cells #[.int .i64 za, .int .i64 ze, .slice zA zb.length zc] 28)).1 (Nat.le_refl _))
        have HAB := Lib.hid (HX.out.2.2.alloc HX.out.2.2.size (.cells #[.int .i64 za, .int .i64 ze, .slice zA zb.length zc] 28))
        have HSZ : RowKit.Hid (wx.heap.size + 1 = (wx.alloc (.cells #[.int .i64 za, .int .i64 ze, .slice zA zb.length zc] 28)).heap.size) := Lib.hid (by simp)
        go_wp2_with (first
          | ((with_reducible refine gate_builtin (b := .append) (xs := #[.tmp 36, .tmp 39]) rfl ?_); at_builtin; refine Kd.R_append KN (w0 := w1) w1.heap.size rfl (.tmp 36) (.tmp 39) 29 31 (.slice none 0 0) 24 rfl Try.underlying29 infoRow rfl (by decide) (by decide) u12 xss [⟨za, ze, zb, zA, zc⟩] [.slice (some ⟨wx.heap.size, 0, none⟩) 1 1] (fun _ => True) (fun k => True ∧ some k ≠ u12.ownBlock) rfl (congrArg (fun k => Value.slice (some ⟨k, 0, none⟩) 1 1) HSZ.out) ⟨_, rfl, Kd.R_lower (Kd.R_newR HRW.out HX.out.1) HX.out.2.2.size⟩ (fun _ hk => hk) (fun _ _ => trivial) (Kd.R_alloc HX.out.1 _) HAB.out HAB.out.size hl24 ?_; intro v2 w5 hR5 hb5 hg5 hat5)
          | go_in)
        go_roundw
        case rel => exact ⟨j + 1, xss ++ [[⟨za, ze, zb, zA, zc⟩]], by omega, by go_num, hR5, by rw [HX.out.2.1, repl_in hjm], hb5⟩
        case measure => simp only [intOf]; omega
      · have hjmi : (m : Int) ≤ (j : Int) := by omega
        go_wp2_with (first
          | ((with_reducible refine gate_builtin (b := .append) (xs := #[.tmp 41, .tmp 42]) rfl ?_); at_builtin; refine Kd.R_append KN (w0 := w1) w1.heap.size rfl (.tmp 41) (.tmp 42) 29 31 (.slice none 0 0) 24 rfl Try.underlying29 infoRow rfl (by decide) (by decide) u12 xss [] [.slice none 0 0] (fun _ => True) (fun k => True ∧ some k ≠ u12.ownBlock) rfl rfl ⟨_, rfl, Kd.R_nil _ _ _ _ _⟩ (fun _ hk => hk) (fun _ _ => trivial) HX.out.1 HX.out.2.2 HX.out.2.2.size hl24 ?_; intro v2 w5 hR5 hb5 hg5 hat5)
          | go_in)
        go_roundw
        case rel => exact ⟨j + 1, xss ++ [[]], by omega, by go_num, hR5, by rw [HX.out.2.1, repl_out (by omega)], hb5⟩
        case measure => simp only [intOf]; omega
    · obtain rfl : j = k := by omega
      have hmap : xss.map (List.map C4.c3) = repsM (za, ze, zb) m (j - m) := by
        rw [HX.out.2.1]
        unfold repl repsM
        rw [List.map_append, List.map_replicate, List.map_replicate, show min j m = m from by omega]; rfl
      have hlx : xss.length = j := by rw [HX.out.2.1]; exact repl_len _ _ _
      have hRz : ∀ xs ∈ xss, ∀ z ∈ xs, z = (⟨za, ze, zb, zA, zc⟩ : C4) := by
        intro xs hxs z hz
        rw [HX.out.2.1] at hxs
        unfold repl at hxs
        rcases List.mem_append.1 hxs with h | h
        · rw [(List.mem_replicate.1 h).2] at hz
          simpa using hz
        · rw [(List.mem_replicate.1 h).2] at hz; cases hz
      have HBX := Lib.hid (below_then HB1.out HB1.out.size HX.out.2.2)
      have HXR := Lib.hid HX.out.1
      obtain ⟨A5, c5, rfl, hc5, hC5⟩ := C_of_KN HX.out.1 (fun xs hxs z hz => by rw [hRz xs hxs z hz]; exact HZ.out.1.below HBX.out)
      have hxr := HXR.out
      rw [hlx] at hxr
      have HXR := Lib.hid hxr
      have HRz := Lib.hid hRz
      clear hxr
      have hC5' : (Kd.slice 28 KC).C wx A5 (repsM (za, ze, zb) m (j - m)).length (repsM (za, ze, zb) m (j - m)) := by
        rw [← hmap, List.length_map]; exact hC5
      have hrl : xss.length = (repsM (za, ze, zb) m (j - m)).length := by rw [← hmap, List.length_map]
      have hWr : ∀ l ∈ repsM (za, ze, zb) m (j - m), ∀ x ∈ l, x.2.2.length ≤ 140737488355328 := by
        intro l hl x hx
        unfold repsM at hl
        rcases List.mem_append.1 hl with h | h
        · rw [(List.mem_replicate.1 h).2] at hx
          obtain rfl : x = (za, ze, zb) := by simpa using hx
          exact HZ.out.2.2
        · rw [(List.mem_replicate.1 h).2] at hx; cases hx
      have hch := chosen_calls (repsM (za, ze, zb) m (j - m)) A5 c5 za (j : Int) wx hC5' (by rw [← hrl]; omega) (by omega) hWr
      rw [← hrl, hlx] at hch
      have hbb : (chosenM (repsM (za, ze, zb) m (j - m)) za (j : Int)).isSome = decide (2 * (m : Int) > (j : Int)) := by
        rw [show chosenM (repsM (za, ze, zb) m (j - m)) za (j : Int) = _ from chosenM_reps (za, ze, zb) m (j - m) (j : Int) (by omega)]
        by_cases h : 2 * (m : Int) > (j : Int)
        · rw [if_pos h, decide_eq_true h]; rfl
        · rw [if_neg h, decide_eq_false h]; rfl
      rw [hbb] at hch
      obtain ⟨b, hb⟩ : ∃ b, b = decide (2 * (m : Int) > (j : Int)) := ⟨_, rfl⟩
      rw [← hb] at hch
      have HBB := Lib.hid hb
      clear hbb hb
      have HC5 := Lib.hid hC5'
      have HWr := Lib.hid hWr
      have HRL := Lib.hid hrl
      have HMP := Lib.hid hmap
      have hjj : ¬ (j : Int) < (j : Int) := by omega
      clear hC5 hC5' hWr hrl hmap hRz
      go_wp2_with fail
      refine hch.mono ?_
      rintro e w2 ⟨d, rfl, hd, hrd, hb2⟩
      have HD := Lib.hid (And.intro hd hrd)
      have HB2 := Lib.hid (below_then HX.out.2.2 HX.out.2.2.size hb2)
      have HB2x := Lib.hid hb2
      clear hch hd hrd hb2
      obtain ⟨da, de, db, dA, dc⟩ := d
      simp only
      have hq0 := blk_grown (blk_grown HQ0.out (grown_of_below HB2.out) (by simp)) (grown_of_below ((Below.refl w2.heap.size w2).alloc (Nat.le_refl _) (.cells #[.int .i64 da, .int .i64 de, .slice dA db.length dc] 28))) (by simp)
      have e0 := (blk_cell hq0 0).trans rfl
      clear hq0 c0 c1 c2
      go_wp2_with fail
      have hBa := (Below.refl w2.heap.size w2).alloc (Nat.le_refl _) (.cells #[.int .i64 da, .int .i64 de, .slice dA db.length dc] 28)
      have hgd := (MapKept.heap_alloc w2 (.cells #[.int .i64 da, .int .i64 de, .slice dA db.length dc] 28)).1
      have HBa := Lib.hid hBa
      have HGD := Lib.hid hgd
      clear hBa hgd e0
      generalize w2.alloc (.cells #[.int .i64 da, .int .i64 de, .slice dA db.length dc] 28) = W3 at *
      have hch2 := chosen_calls (repsM (za, ze, zb) m (j - m)) A5 c5 (wrap64 (za + 1)) (j : Int) W3 (Kd.C_below (Kd.C_below HC5.out HB2x.out) HBa.out) (by rw [← HRL.out]; omega) (by omega) HWr.out
      rw [← HRL.out, hlx] at hch2
      rw [chosenM_else (za, ze, zb) m (j - m) (j : Int) (wrap64 (za + 1)) (by unfold wrap64; simp only; omega)] at hch2
      refine hch2.mono ?_
      rintro e w4 ⟨d2, rfl, _, _, hb4⟩
      have HB4 := Lib.hid (below_then HBa.out HBa.out.size hb4)
      have HGD4 := Lib.hid (blk_grown HGD.out (grown_of_below hb4) (by simp))
      obtain ⟨xa, xe, xb, xA, xc⟩ := d2
      have HB5 := Lib.hid (HB4.out.alloc HB4.out.size (.cells #[.int .i64 xa, .int .i64 xe, .slice xA xb.length xc] 28))
      have h5 := (Below.refl w4.heap.size w4).alloc (Nat.le_refl _) (.cells #[.int .i64 xa, .int .i64 xe, .slice xA xb.length xc] 28)
      have qd := blk_grown HGD4.out (grown_of_below h5) (by simp)
      have qc := blk_grown HQ0.out (grown_of_below (below_then HB2.out HB2.out.size HB5.out)) (by simp)
      have qo := blk_grown HQ1.out (grown_of_below (below_then HB2.out HB2.out.size HB5.out)) (by simp)
      have HQ := Lib.hid (And.intro qd (And.intro qc qo))
      clear hch2 hb4 h5 qd qc qo
      simp only [encV]
      have b0 := (blk_cell HQ.out.1 0).trans rfl
      have b1 := (blk_cell HQ.out.1 1).trans rfl
      have b2 := (blk_cell HQ.out.1 2).trans rfl
      have c0 := (blk_cell HQ.out.2.1 0).trans rfl
      have c1 := (blk_cell HQ.out.2.1 1).trans rfl
      have c2 := (blk_cell HQ.out.2.1 2).trans rfl
      have o0 := (blk_cell HQ.out.2.2 0).trans rfl
      have o1 := (blk_cell HQ.out.2.2 1).trans rfl
      have o2 := (blk_cell HQ.out.2.2 2).trans rfl
      have HXW := Lib.hid (below_then HB2x.out HB2x.out.size HB5.out)
      by_cases h2 : (j : Int) < 2 * (m : Int)
      · obtain rfl : b = true := by rw [HBB.out]; exact decide_eq_true h2
        have hdc : (za, ze, zb) = C4.c3 ⟨da, de, db, dA, dc⟩ := HD.out.1 _ (by
          rw [show chosenM (repsM (za, ze, zb) m (j - m)) za (j : Int) = _ from chosenM_reps (za, ze, zb) m (j - m) (j : Int) (by omega), if_pos h2])
        obtain ⟨rfl, rfl, rfl⟩ : da = za ∧ de = ze ∧ db = zb := by
          simp only [C4.c3, Prod.mk.injEq] at hdc
          exact ⟨hdc.1.symm, hdc.2.1.symm, hdc.2.2.symm⟩
        clear hdc
        have HW5 := Lib.hid (below_then HBX.out HBX.out.size (below_then HB2x.out HB2x.out.size HB5.out))
        have hrc := HZ.out.1.below HW5.out
        have hrdd := HD.out.2.below HB5.out
        have hsa := same_calls (x := ⟨da, de, db, zA, zc⟩) (A := dA) (d := dc) hrc hrdd.1 hrdd.2
        simp only [encV] at hsa
        clear hrc hrdd
        by_cases hyz : ya = da
        · subst hyz
          go_wp2_with fail
          refine hsa.mono ?_
          rintro e w7 ⟨rfl, hb7⟩
          have r0 := (blk_cell (blk_grown HQ.out.2.1 (grown_of_below hb7) (by simp)) 0).trans rfl
          have s0 := (blk_cell (blk_grown HQ.out.2.2 (grown_of_below hb7) (by simp)) 0).trans rfl
          have HB7 := Lib.hid (below_then HW5.out HW5.out.size hb7)
          clear hb7 b0 b1 b2 c0 c1 c2 o0 o1 o2 hsa
          go_wp2_with fail
          go_ret
          exact ⟨rfl, HB7.out⟩
        · have hyb : ((ya : Int) == da) = false := beq_eq_false_iff_ne.2 hyz
          go_wp2_with fail
          refine hsa.mono ?_
          rintro e w7 ⟨rfl, hb7⟩
          have r0 := (blk_cell (blk_grown HQ.out.2.1 (grown_of_below hb7) (by simp)) 0).trans rfl
          have q1 := blk_grown HQ.out.2.2 (grown_of_below hb7) (by simp)
          have s0 := (blk_cell q1 0).trans rfl
          have s1 := (blk_cell q1 1).trans rfl
          have s2 := (blk_cell q1 2).trans rfl
          have HX8 := Lib.hid (below_then HXW.out HXW.out.size hb7)
          have HX7 := Lib.hid (below_then HX.out.2.2 HX.out.2.2.size HX8.out)
          have HR7 := Lib.hid (Kd.R_below HXR.out HX8.out)
          have HB7 := Lib.hid (below_then HW5.out HW5.out.size hb7)
          clear hb7 q1 b0 b1 b2 c0 c1 c2 o0 o1 o2 hsa
          obtain ⟨mm, hmm⟩ : ∃ mm : Nat, mm = min m 1 := ⟨_, rfl⟩
          have hmi : min (m : Int) 1 = (mm : Int) := by omega
          have hmm0 : (0 : Int) ≤ (mm : Int) := by omega
          have hmm1 : (mm : Int) ≤ 1 := by omega
          have HMM := Lib.hid hmm
          clear hmm
          have HRW := Lib.hid (row1_own (z := ⟨ya, ye, yb, yA, yc⟩) (MapKept.heap_alloc w7 (.cells #[.int .i64 ya, .int .i64 ye, .slice yA yb.length yc] 28)).1 (Nat.le_refl _))
          have HAB := Lib.hid (HX7.out.alloc HX7.out.size (.cells #[.int .i64 ya, .int .i64 ye, .slice yA yb.length yc] 28))
          have HSZ : RowKit.Hid (w7.heap.size + 1 = (w7.alloc (.cells #[.int .i64 ya, .int .i64 ye, .slice yA yb.length yc] 28)).heap.size) := Lib.hid (by simp)
          have hl24 : (xss.length + 1) * 24 ≤ 140737488355328 := by omega
          go_wp2_with (at_builtin; refine gate_guard (by rfl) ?_; refine Kd.R_append KN (w0 := w1) w1.heap.size rfl (.tmp 90) (.tmp 93) 29 31 (.slice none 0 0) 24 rfl Try.underlying29 infoRow rfl (by decide) (by decide) (.slice A5 j c5) xss [⟨ya, ye, yb, yA, yc⟩] [.slice (some ⟨w7.heap.size, 0, none⟩) 1 1] (fun _ => True) (fun k => True ∧ some k ≠ (Value.slice A5 j c5).ownBlock) rfl (congrArg (fun k => Value.slice (some ⟨k, 0, none⟩) 1 1) HSZ.out) ⟨_, rfl, Kd.R_lower (Kd.R_newR HRW.out HR7.out) HX7.out.size⟩ (fun _ hk => hk) (fun _ _ => trivial) (Kd.R_alloc HR7.out _) HAB.out HAB.out.size hl24 ?_; intro v2 w8 hR8 hb8 hg8 hat8)
          have hB8 := below_then HB1.out HB1.out.size hb8
          obtain ⟨A8, c8, rfl, hc8, hC8⟩ := C_of_KN hR8 (fun xs hxs z hz => by
            rcases List.mem_append.1 hxs with h | h
            · rw [HRz.out xs h z hz]; exact HZ.out.1.below hB8
            · obtain rfl : xs = [⟨ya, ye, yb, yA, yc⟩] := by simpa using h
              obtain rfl : z = ⟨ya, ye, yb, yA, yc⟩ := by simpa using hz
              exact HO.out.1.below hB8)
          have hLL : (xss ++ [[(⟨ya, ye, yb, yA, yc⟩ : C4)]]).map (List.map C4.c3) = repsM (da, de, db) m (j - m) ++ [[(ya, ye, yb)]] := by rw [List.map_append, HMP.out]; rfl
          have hl8 : (xss ++ [[(⟨ya, ye, yb, yA, yc⟩ : C4)]]).length = (repsM (da, de, db) m (j - m) ++ [[(ya, ye, yb)]]).length := by rw [← hLL, List.length_map]
          rw [hLL] at hC8
          rw [hl8] at hC8 hc8 ⊢
          have hme := merge_calls (repsM (da, de, db) m (j - m) ++ [[(ya, ye, yb)]]) A8 c8 w8 hC8 (fun l hl x hx => by
            rcases List.mem_append.1 hl with h | h
            · refine ⟨?_, HWr.out l h x hx⟩
              unfold repsM at h
              rcases List.mem_append.1 h with h | h
              · rw [(List.mem_replicate.1 h).2] at hx
                obtain rfl : x = (da, de, db) := by simpa using hx
                exact HZ.out.2.1
              · rw [(List.mem_replicate.1 h).2] at hx; cases hx
            · obtain rfl : l = [(ya, ye, yb)] := by simpa using h
              obtain rfl : x = (ya, ye, yb) := by simpa using hx
              exact HO.out.2) (by rw [reps_flat_len]; omega)
          have HML := Lib.hid (merge_reps_len (da, de, db) (ya, ye, yb) m (j - m) hyz)
          have HB8 := Lib.hid hB8
          clear hLL hl8 hC8 hc8 hR8 hb8 hg8 hat8 hB8
          generalize repsM (da, de, db) m (j - m) ++ [[(ya, ye, yb)]] = LL at *
          go_wp2_with fail
          refine hme.mono ?_
          rintro e w9 ⟨v9, out, rfl, hK9, hO9, hm9, hb9⟩
          obtain ⟨A9, c9, rfl⟩ := Kd.R_slice hK9
          have hol : out.length = 1 + mm := by rw [HMM.out, ← HML.out, ← hm9, List.length_map]
          rw [hol]
          have HB9 := Lib.hid (below_then HB8.out HB8.out.size hb9)
          clear hme hK9 hO9 hm9 hol hb9
          go_wp2_with fail
          go_ret
          exact ⟨by simp, HB9.out⟩
      · obtain rfl : b = false := by rw [HBB.out]; exact decide_eq_false h2
        by_cases hyz : ya = za
        · subst hyz
          go_wp2_with fail
          go_ret
          exact ⟨rfl, (below_then HBX.out HBX.out.size (below_then HB2x.out HB2x.out.size HB5.out))⟩
        · have hyb : ((ya : Int) == za) = false := beq_eq_false_iff_ne.2 hyz
          have HX7 := Lib.hid (below_then HX.out.2.2 HX.out.2.2.size HXW.out)
          have HR7 := Lib.hid (Kd.R_below HXR.out HXW.out)
          have HB7 := Lib.hid (below_then HBX.out HBX.out.size (below_then HB2x.out HB2x.out.size HB5.out))
          go_upto_region 13 with fail
          generalize w4.alloc (.cells #[.int .i64 xa, .int .i64 xe, .slice xA xb.length xc] 28) = w7 at *
          obtain ⟨mm, hmm⟩ : ∃ mm : Nat, mm = min m 1 := ⟨_, rfl⟩
          have hmi : min (m : Int) 1 = (mm : Int) := by omega
          have hmm0 : (0 : Int) ≤ (mm : Int) := by omega
          have hmm1 : (mm : Int) ≤ 1 := by omega
          have HMM := Lib.hid hmm
          clear hmm
          have HRW := Lib.hid (row1_own (z := ⟨ya, ye, yb, yA, yc⟩) (MapKept.heap_alloc w7 (.cells #[.int .i64 ya, .int .i64 ye, .slice yA yb.length yc] 28)).1 (Nat.le_refl _))
          have HAB := Lib.hid (HX7.out.alloc HX7.out.size (.cells #[.int .i64 ya, .int .i64 ye, .slice yA yb.length yc] 28))
          have HSZ : RowKit.Hid (w7.heap.size + 1 = (w7.alloc (.cells #[.int .i64 ya, .int .i64 ye, .slice yA yb.length yc] 28)).heap.size) := Lib.hid (by simp)
          have hl24 : (xss.length + 1) * 24 ≤ 140737488355328 := by omega
          go_wp2_with (at_builtin; refine gate_guard (by rfl) ?_; refine Kd.R_append KN (w0 := w1) w1.heap.size rfl (.tmp 90) (.tmp 93) 29 31 (.slice none 0 0) 24 rfl Try.underlying29 infoRow rfl (by decide) (by decide) (.slice A5 j c5) xss [⟨ya, ye, yb, yA, yc⟩] [.slice (some ⟨w7.heap.size, 0, none⟩) 1 1] (fun _ => True) (fun k => True ∧ some k ≠ (Value.slice A5 j c5).ownBlock) rfl (congrArg (fun k => Value.slice (some ⟨k, 0, none⟩) 1 1) HSZ.out) ⟨_, rfl, Kd.R_lower (Kd.R_newR HRW.out HR7.out) HX7.out.size⟩ (fun _ hk => hk) (fun _ _ => trivial) (Kd.R_alloc HR7.out _) HAB.out HAB.out.size hl24 ?_; intro v2 w8 hR8 hb8 hg8 hat8)
          have hB8 := below_then HB1.out HB1.out.size hb8
          obtain ⟨A8, c8, rfl, hc8, hC8⟩ := C_of_KN hR8 (fun xs hxs z hz => by
            rcases List.mem_append.1 hxs with h | h
            · rw [HRz.out xs h z hz]; exact HZ.out.1.below hB8
            · obtain rfl : xs = [⟨ya, ye, yb, yA, yc⟩] := by simpa using h
              obtain rfl : z = ⟨ya, ye, yb, yA, yc⟩ := by simpa using hz
              exact HO.out.1.below hB8)
          have hLL : (xss ++ [[(⟨ya, ye, yb, yA, yc⟩ : C4)]]).map (List.map C4.c3) = repsM (za, ze, zb) m (j - m) ++ [[(ya, ye, yb)]] := by rw [List.map_append, HMP.out]; rfl
          have hl8 : (xss ++ [[(⟨ya, ye, yb, yA, yc⟩ : C4)]]).length = (repsM (za, ze, zb) m (j - m) ++ [[(ya, ye, yb)]]).length := by rw [← hLL, List.length_map]
          rw [hLL] at hC8
          rw [hl8] at hC8 hc8 ⊢
          have hme := merge_calls (repsM (za, ze, zb) m (j - m) ++ [[(ya, ye, yb)]]) A8 c8 w8 hC8 (fun l hl x hx => by
            rcases List.mem_append.1 hl with h | h
            · refine ⟨?_, HWr.out l h x hx⟩
              unfold repsM at h
              rcases List.mem_append.1 h with h | h
              · rw [(List.mem_replicate.1 h).2] at hx
                obtain rfl : x = (za, ze, zb) := by simpa using hx
                exact HZ.out.2.1
              · rw [(List.mem_replicate.1 h).2] at hx; cases hx
            · obtain rfl : l = [(ya, ye, yb)] := by simpa using h
              obtain rfl : x = (ya, ye, yb) := by simpa using hx
              exact HO.out.2) (by rw [reps_flat_len]; omega)
          have HML := Lib.hid (merge_reps_len (za, ze, zb) (ya, ye, yb) m (j - m) hyz)
          have HB8 := Lib.hid hB8
          clear hLL hl8 hC8 hc8 hR8 hb8 hg8 hat8 hB8
          generalize repsM (za, ze, zb) m (j - m) ++ [[(ya, ye, yb)]] = LL at *
          go_wp2_with fail
          refine hme.mono ?_
          rintro e w9 ⟨v9, out, rfl, hK9, hO9, hm9, hb9⟩
          obtain ⟨A9, c9, rfl⟩ := Kd.R_slice hK9
          have hol : out.length = 1 + mm := by rw [HMM.out, ← HML.out, ← hm9, List.length_map]
          rw [hol]
          have HB9 := Lib.hid (below_then HB8.out HB8.out.size hb9)
          clear hme hK9 hO9 hm9 hol hb9
          go_wp2_with fail
          go_ret
          exact ⟨by simp, HB9.out⟩
end Go.Proofs.Ytnnahbmhjjamcaa.Quor
