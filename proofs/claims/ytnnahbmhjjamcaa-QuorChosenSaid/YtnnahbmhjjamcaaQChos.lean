import Derived.Test.YtnnahbmhjjamcaaQIdx
/- Chosen: the cell of a slot that a quorum has. -/
namespace Go.Proofs.Ytnnahbmhjjamcaa.Quor
open Go.RowKit Go.Maps Go.Proofs.YtnnahbmhjjamcaaW.PrintWords Go.Proofs.Ytnnahbmhjjamcaa.Cut
def firstM (ls : List (List C3)) (a : Int) : List C3 := ls.filterMap fun l => findM l a
theorem firstM_snoc {ls : List (List C3)} {k : Nat} {l : List C3} {a : Int} (h : ls[k]? = some l) : firstM (ls.take (k + 1)) a = match findM l a with | none => firstM (ls.take k) a | some x => firstM (ls.take k) a ++ [x] := by
  unfold firstM
  rw [take_snoc'' h, List.filterMap_append]
  cases hf : findM l a <;> simp [hf]
theorem idx_find {l : List C3} {a i : Int} (h : IdxIs l a i) : (i = -1 ∧ findM l a = none) ∨ ∃ (k : Nat) (z : C3), i = k ∧ l[k]? = some z ∧ findM l a = some z := by
  rcases h with ⟨h1, h2⟩ | ⟨k, z, h1, h2, h3, h4⟩
  · refine .inl ⟨h1, ?_⟩
    unfold findM
    rw [List.find?_eq_none]
    intro x hx
    simpa using h2 x hx
  · exact .inr ⟨k, z, h1, h2, findM_some h2 h3 h4⟩
/-- How many of the first cells are this one. -/
def sameC (c d : C3) : Bool := decide (c.2.1 = d.2.1) && ((strOfNums c.2.2).toList == (strOfNums d.2.2).toList)
def manyM (f : List C3) (c : C3) : Nat := (f.filter fun d => sameC c d).length
def chosM (f : List C3) (n : Int) : List C3 := f.filter fun c => decide (needM n ≤ manyM f c)
/-- What is chosen. -/
def chosenM (ls : List (List C3)) (a n : Int) : Option C3 :=
  match chosM (firstM ls a) n with
  | [] => none
  | x :: r => some (best3 x r)
def IsChosen (ls : List (List C3)) (a n : Int) (z : C4) : Prop := ∀ y, chosenM ls a n = some y → y = z.c3
theorem firstM_mem {ls : List (List C3)} {a : Int} {x : C3} (h : x ∈ firstM ls a) : ∃ l ∈ ls, x ∈ l := by
  unfold firstM at h
  obtain ⟨l, hl, hx⟩ := List.mem_filterMap.1 h
  exact ⟨l, hl, by unfold findM at hx; exact List.mem_of_find?_eq_some hx⟩
theorem manyM_snoc {f : List C3} {c : C3} {k : Nat} {d : C3} (h : f[k]? = some d) : manyM (f.take (k + 1)) c = if sameC c d = true then manyM (f.take k) c + 1 else manyM (f.take k) c := by
  unfold manyM
  rw [take_snoc'' h, List.filter_append, List.length_append]
  cases hs : sameC c d <;> simp [hs]
theorem chos_snoc {f : List C3} {n : Int} {k : Nat} {c : C3} (h : f[k]? = some c) : (f.take (k + 1)).filter (fun c => decide (needM n ≤ manyM f c)) = if needM n ≤ manyM f c then (f.take k).filter (fun c => decide (needM n ≤ manyM f c)) ++ [c] else (f.take k).filter (fun c => decide (needM n ≤ manyM f c)) := by
  rw [take_snoc'' h, List.filter_append]
  by_cases hs : needM n ≤ manyM f c <;> simp [hs]
theorem equal_calls {x y : C4} {w : World} (hx : RdB w x) (hy : RdB w y) : Calls Try.prog 24 #[.slice x.A x.by_.length x.c, .slice y.A y.by_.length y.c] w fun e w' => e = .returned (.bool ((strOfNums x.by_).toList == (strOfNums y.by_).toList)) ∧ Below w.heap.size w w' :=
  (PQuorChosen.bytes_Equal.calls x.A x.c x.by_ y.A y.c y.by_ _ w hx.2 hx.1 hy.2 hy.1 rfl).mono fun e w' ⟨h1, h2⟩ => ⟨h1, by obtain ⟨q, hq⟩ := h2.out; rw [hq]; exact pw_below_drewN (Below.refl _ _) q⟩
set_option maxRecDepth 100000 in
set_option maxHeartbeats 8000000 in
theorem chosen_calls (ls : List (List C3)) (A : Option Addr) (c : Nat) (a n : Int) (w : World) (hC : (Kd.slice 28 KC).C w A ls.length ls) (hl : ls.length ≤ 1000000) (hn : n ≤ 9223372036854775807) (hW : ∀ l ∈ ls, ∀ x ∈ l, x.2.2.length ≤ 140737488355328) :
    Calls Try.prog 14 #[.slice A ls.length c, .int .i64 a, .int .i64 n] w fun e w' => ∃ z, e = .returned (.tuple #[encV z, .bool (chosenM ls a n).isSome]) ∧ IsChosen ls a n z ∧ RdB w' z ∧ Below w.heap.size w w' := by
  have HC := Lib.hid hC
  have HW := Lib.hid hW
  obtain ⟨m, hm⟩ : ∃ m, m = ls.length := ⟨_, rfl⟩
  rw [← hm] at HC hl ⊢
  have HM := Lib.hid hm
  have hB := ((Below.refl w.heap.size w).alloc (Nat.le_refl _) (.cells #[.int .i64 a] 3)).alloc (by simp) (.cells #[.int .i64 0, .int .i64 0, .slice none 0 0] 28)
  have hG := (MapKept.heap_alloc (w.alloc (.cells #[.int .i64 a] 3)) (.cells #[.int .i64 0, .int .i64 0, .slice none 0 0] 28)).1
  have hA := (blk_cell (((MapKept.heap_alloc (w.alloc (.cells #[.int .i64 a] 3)) (.cells #[.int .i64 0, .int .i64 0, .slice none 0 0] 28)).2 _ (by simp)).trans (MapKept.heap_alloc w (.cells #[.int .i64 a] 3)).1) 0).trans rfl
  rw [show (w.alloc (.cells #[.int .i64 a] 3)).heap.size = w.heap.size + 1 from by simp] at hG
  go_enter Try.func14, Try.ntmps14
  clear hC hW hm
  go_wp2_with fail
  generalize (w.alloc (.cells #[.int .i64 a] 3)).alloc (.cells #[.int .i64 0, .int .i64 0, .slice none 0 0] 28) = W at *
  have HB := Lib.hid hB
  have HG := Lib.hid hG
  have HA := Lib.hid hA
  have hws : w.heap.size + 2 ≤ W.heap.size := (Array.getElem?_eq_some_iff.1 hG).1
  clear hB hG hA
  go_loopw [8, 20] (fun v i wx => ∃ (k : Nat) (zs : List C4), k ≤ m ∧ i = .int .i64 k ∧ K4.R 28 wx W.heap.size (fun _ => True) v zs ∧ (∀ z ∈ zs, RdB w z) ∧ zs.length ≤ k ∧ zs.map C4.c3 = firstM (ls.take k) a ∧ Below W.heap.size W wx) (fun _ i _ => m - (intOf i).toNat)
  case atStart => exact ⟨0, [], Nat.zero_le _, rfl, Kd.R_nil _ _ _ _ _, by simp, Nat.le_refl _, rfl, Below.refl _ _⟩
  case round =>
    obtain ⟨k, zs, hk, rfl, hR, hrd, hzl, hz, hB⟩ := hrel
    rename World => wx
    have HX := Lib.hid (And.intro hR (And.intro hrd (And.intro hz hB)))
    clear hR hrd hz hB
    by_cases hlt : k < m
    · have hlti : (k : Int) < (m : Int) := by omega
      have hk0 : (0 : Int) ≤ (k : Int) := by omega
      obtain ⟨adR, l, B, d, rfl, hl1, a0, hlc, hCl⟩ := at_KR HC.out k hlt
      have hBw := below_then HB.out HB.out.size HX.out.2.2.2
      have a0 := cell_step (grown_of_below hBw) a0 (by simp)
      have hix := idx_calls l B d a w.heap.size wx (Kd.C_below hCl hBw) (cell_step (grown_of_below HX.out.2.2.2) HA.out (by simp)) (by have := HX.out.2.2.2.size; omega)
      have HL := Lib.hid (And.intro hl1 (And.intro hCl hBw))
      clear hl1 hCl hBw
      go_wp2_with fail
      refine hix.mono ?_
      rintro e w2 ⟨i, rfl, hi, hb2⟩
      have HI := Lib.hid hi
      have HB2 := Lib.hid (below_then HX.out.2.2.2 HX.out.2.2.2.size hb2)
      have HBw2 := Lib.hid (below_then HL.out.2.2 HL.out.2.2.size hb2)
      have HR2 := Lib.hid (Kd.R_below HX.out.1 hb2)
      clear hi hb2 hix
      rcases idx_find HI.out with ⟨rfl, hf⟩ | ⟨q, y, rfl, hy, hf⟩
      · have HF := Lib.hid hf
        clear hf
        go_wp2_with fail
        go_roundw
        case rel => exact ⟨k + 1, zs, by omega, by go_num, HR2.out, HX.out.2.1, by omega, by rw [firstM_snoc HL.out.1, HF.out]; exact HX.out.2.2.1, HB2.out⟩
        case measure => simp only [intOf]; omega
      · have hql : q < l.length := (List.getElem?_eq_some_iff.1 hy).1
        have hqi : (q : Int) < (l.length : Int) := by omega
        have hq0 : (0 : Int) ≤ (q : Int) := by omega
        obtain ⟨ad, z, rfl, hz, hrz, b0, b1, b2⟩ := at_KC HL.out.2.1 q hql
        have b0 := cell_step (grown_of_below HBw2.out) b0 (by simp)
        have b1 := cell_step (grown_of_below HBw2.out) b1 (by simp)
        have b2 := cell_step (grown_of_below HBw2.out) b2 (by simp)
        have hyz : y = z.c3 := Option.some.inj (hy.symm.trans hz)
        have HF := Lib.hid (And.intro (hyz ▸ hf) hrz)
        have hl40 : (zs.length + 1) * 40 ≤ 140737488355328 := by omega
        have hbs := HB2.out.size
        clear hy hz hrz hf hyz
        obtain ⟨za, ze, zb, zA, zc⟩ := z
        simp only at b0 b1 b2
        go_wp2_with (first
          | ((with_reducible refine gate_builtin (b := .append) (xs := #[.tmp 29, .tmp 34]) rfl ?_); at_builtin; refine Kd.R_append K4 (w0 := W) W.heap.size rfl (.tmp 29) (.tmp 34) 31 28 (.agg #[.int .i64 0, .int .i64 0, .slice none 0 0]) 40 rfl Try.underlying31 infoCell rfl (by decide) (by decide) u8 zs ⟨za, ze, zb, zA, zc⟩ (enc4 ⟨za, ze, zb, zA, zc⟩) (fun _ => True) (fun _ => False) rfl rfl rfl (fun _ hk => hk.elim) (fun _ _ => trivial) HR2.out HB2.out hbs hl40 ?_; intro v1 w4 hR4 hb4 hg4 hat4)
          | go_in)
        go_roundw
        case rel =>
          refine ⟨k + 1, zs ++ [⟨za, ze, zb, zA, zc⟩], by omega, by go_num, hR4, fun y hy => ?_, by rw [List.length_append, List.length_singleton]; omega, ?_, hb4⟩
          · rcases List.mem_append.1 hy with hy | hy
            · exact HX.out.2.1 y hy
            · obtain rfl : y = ⟨za, ze, zb, zA, zc⟩ := by simpa using hy
              exact HF.out.2
          · rw [firstM_snoc HL.out.1, HF.out.1, List.map_append, HX.out.2.2.1]; rfl
        case measure => simp only [intOf]; omega
    · obtain rfl : k = m := by omega
      have hfz : zs.map C4.c3 = firstM ls a := by
        have := HX.out.2.2.1
        rwa [List.take_of_length_le (by rw [← HM.out]; exact Nat.le_refl _)] at this
      have HZ := Lib.hid hfz
      have hmm : ¬ (k : Int) < (k : Int) := by omega
      clear hfz hlt hk
      obtain ⟨A8, c8, rfl, hc8, hC8⟩ := Kd.R_reads HX.out.1
      have hn' := need_calls n hn
      have hzl2 : zs.length ≤ 1000000 := by omega
      obtain ⟨nz, hnz⟩ : ∃ d, d = zs.length := ⟨_, rfl⟩
      rw [← hnz] at hc8 hC8 hzl2 ⊢
      have HNZ := Lib.hid hnz
      have HC8 := Lib.hid hC8
      clear hC8 hnz hzl
      go_wp2_with fail
      go_loopw [12, 39] (fun v i wy => ∃ (k : Nat) (cs : List C4), k ≤ nz ∧ i = .int .i64 k ∧ K4.R 28 wy wx.heap.size (fun _ => True) v cs ∧ (∀ z ∈ cs, z ∈ zs) ∧ cs.length ≤ k ∧ cs.map C4.c3 = ((zs.map C4.c3).take k).filter (fun c => decide (needM n ≤ manyM (zs.map C4.c3) c)) ∧ Below wx.heap.size wx wy) (fun _ i _ => nz - (intOf i).toNat)
      case atStart => exact ⟨0, [], Nat.zero_le _, rfl, Kd.R_nil _ _ _ _ _, by simp, Nat.le_refl _, rfl, Below.refl _ _⟩
      case round =>
        obtain ⟨k2, cs, hk2, rfl, hR, hmem, hcl, hcs, hB⟩ := hrel
        rename World => wy
        have HY := Lib.hid (And.intro hR (And.intro hmem (And.intro hcs hB)))
        clear hR hmem hcs hB
        by_cases hlt2 : k2 < nz
        · have hlti2 : (k2 : Int) < (nz : Int) := by omega
          have hk20 : (0 : Int) ≤ (k2 : Int) := by omega
          obtain ⟨ad, z, rfl, hz, b0, b1, b2⟩ := at_K4 (Kd.C_below HC8.out HY.out.2.2.2) k2 hlt2
          have HZ2 := Lib.hid (And.intro hz (HX.out.2.1 z (List.mem_of_getElem? hz)))
          clear hz
          obtain ⟨za, ze, zb, zA, zc⟩ := z
          simp only at b0 b1 b2
          have hbc := (MapKept.heap_alloc wy (.cells #[.int .i64 za, .int .i64 ze, .slice zA zb.length zc] 28)).1
          have hBc := HY.out.2.2.2.alloc HY.out.2.2.2.size (.cells #[.int .i64 za, .int .i64 ze, .slice zA zb.length zc] 28)
          have hRc := Kd.R_alloc HY.out.1 (.cells #[.int .i64 za, .int .i64 ze, .slice zA zb.length zc] 28)
          have HBC := Lib.hid hbc
          have HBc := Lib.hid hBc
          have HRc := Lib.hid hRc
          have hycl : wy.heap.size < (wy.alloc (.cells #[.int .i64 za, .int .i64 ze, .slice zA zb.length zc] 28)).heap.size := by simp
          clear hbc hBc hRc
          go_wp2_with fail
          generalize wy.alloc (.cells #[.int .i64 za, .int .i64 ze, .slice zA zb.length zc] 28) = Wc at *
          clear b0 b1 b2
          go_loopw [15, 45] (fun v i wv => ∃ (j : Nat), j ≤ nz ∧ i = .int .i64 j ∧ v = .int .i64 (manyM ((zs.map C4.c3).take j) (za, ze, zb) : Nat) ∧ Below Wc.heap.size Wc wv) (fun _ i _ => nz - (intOf i).toNat)
          case atStart => exact ⟨0, Nat.zero_le _, rfl, rfl, Below.refl _ _⟩
          case round =>
            obtain ⟨j, hj, rfl, rfl, hBv⟩ := hrel
            rename World => wv
            have hmj : manyM ((zs.map C4.c3).take j) (za, ze, zb) ≤ 1000000 := by
              unfold manyM
              refine Nat.le_trans (List.length_filter_le _ _) ?_
              rw [List.length_take]; omega
            by_cases hjn : j < nz
            · have hjni : (j : Int) < (nz : Int) := by omega
              have hj0 : (0 : Int) ≤ (j : Int) := by omega
              have hBv2 := below_then HBc.out HBc.out.size hBv
              obtain ⟨ad2, y, e2, hy, d0, d1, d2⟩ := at_K4 (Kd.C_below HC8.out hBv2) j hjn
              obtain rfl := Option.some.inj e2
              have hbx := blk_grown HBC.out (grown_of_below hBv) (by simp)
              have c0 := (blk_cell hbx 0).trans rfl
              have c1 := (blk_cell hbx 1).trans rfl
              have c2 := (blk_cell hbx 2).trans rfl
              have hg1 : wy.heap.size < wv.heap.size := (Array.getElem?_eq_some_iff.1 hbx).1
              have hg2 : wy.heap.size ≠ wv.heap.size := by omega
              have hg3 : wv.heap.size ≠ wy.heap.size := by omega
              have hry := HX.out.2.1 y (List.mem_of_getElem? hy)
              have hsn := manyM_snoc (f := zs.map C4.c3) (c := (za, ze, zb)) (k := j) (d := y.c3) (by rw [List.getElem?_map, hy]; rfl)
              obtain ⟨ya, ye, yb, yA, yc⟩ := y
              simp only at d0 d1 d2
              have hBv3 := hBv.alloc hBv.size (.cells #[.int .i64 ya, .int .i64 ye, .slice yA yb.length yc] 28)
              have HBV := Lib.hid hBv3
              have HBW := below_then HB.out HB.out.size (below_then HX.out.2.2.2 HX.out.2.2.2.size (hBv2.alloc hBv2.size (.cells #[.int .i64 ya, .int .i64 ye, .slice yA yb.length yc] 28)))
              have heq := equal_calls (x := ⟨za, ze, zb, zA, zc⟩) (y := ⟨ya, ye, yb, yA, yc⟩) (HZ2.out.2.below HBW) (hry.below HBW)
              simp only at heq
              have HSN := Lib.hid hsn
              have HE := Lib.hid heq
              clear hBv hBv2 hBv3 hbx hy hry hsn e2 HBW heq
              by_cases hep : ze = ye
              · subst hep
                cases hq : ((strOfNums zb).toList == (strOfNums yb).toList) with
                | true =>
                  rw [hq] at HE
                  go_wp2_with (go_at_call 24; refine HE.out.mono ?_; rintro e w' ⟨rfl, hb⟩)
                  go_roundw
                  case rel => exact ⟨j + 1, by omega, by go_num, by rw [HSN.out, if_pos (by simp [sameC, C4.c3, hq])]; go_num, below_then HBV.out HBV.out.size hb⟩
                  case measure => simp only [intOf]; omega
                | false =>
                  rw [hq] at HE
                  go_wp2_with (go_at_call 24; refine HE.out.mono ?_; rintro e w' ⟨rfl, hb⟩)
                  go_roundw
                  case rel => exact ⟨j + 1, by omega, by go_num, by rw [HSN.out, if_neg (by simp [sameC, C4.c3, hq])], below_then HBV.out HBV.out.size hb⟩
                  case measure => simp only [intOf]; omega
              · have b1 : (ze == ye) = false := beq_eq_false_iff_ne.2 hep
                go_wp2_with fail
                go_roundw
                case rel => exact ⟨j + 1, by omega, by go_num, by rw [HSN.out, if_neg (by simp [sameC, C4.c3, hep])], HBV.out⟩
                case measure => simp only [intOf]; omega
            · obtain rfl : j = nz := by omega
              have hjj : ¬ (j : Int) < (j : Int) := by omega
              have htk : (zs.map C4.c3).take j = zs.map C4.c3 := List.take_of_length_le (by rw [List.length_map, ← HNZ.out]; exact Nat.le_refl _)
              rw [htk] at hmj ⊢
              have hcsn := chos_snoc (f := zs.map C4.c3) (n := n) (k := k2) (c := (za, ze, zb)) (by rw [List.getElem?_map, HZ2.out.1]; rfl)
              have hbx := blk_grown HBC.out (grown_of_below hBv) (by simp)
              have c0 := (blk_cell hbx 0).trans rfl
              have c1 := (blk_cell hbx 1).trans rfl
              have c2 := (blk_cell hbx 2).trans rfl
              have HBV := Lib.hid (below_then HBc.out HBc.out.size hBv)
              have HRV := Lib.hid (Kd.R_below HRc.out hBv)
              have HCSN := Lib.hid hcsn
              obtain ⟨mc, hmc⟩ : ∃ d : Nat, d = manyM (zs.map C4.c3) (za, ze, zb) := ⟨_, rfl⟩
              rw [← hmc] at hmj ⊢
              have HMC := Lib.hid hmc
              have hl40 : (cs.length + 1) * 40 ≤ 140737488355328 := by omega
              have hbs := HBV.out.size
              clear htk hcsn hbx hBv hmc
              by_cases hnd : needM n ≤ (mc : Int)
              · go_wp2_with (first
                  | (go_at_call 8; refine (hn' _).mono ?_; rintro e w' ⟨rfl, rfl⟩)
                  | ((with_reducible refine gate_builtin (b := .append) (xs := #[.tmp 68, .tmp 70]) rfl ?_); at_builtin; refine Kd.R_append K4 (w0 := wx) wx.heap.size rfl (.tmp 68) (.tmp 70) 31 28 (.agg #[.int .i64 0, .int .i64 0, .slice none 0 0]) 40 rfl Try.underlying31 infoCell rfl (by decide) (by decide) u12 cs ⟨za, ze, zb, zA, zc⟩ (enc4 ⟨za, ze, zb, zA, zc⟩) (fun _ => True) (fun _ => False) rfl rfl rfl (fun _ hk => hk.elim) (fun _ _ => trivial) HRV.out HBV.out hbs hl40 ?_; intro v1 w4 hR4 hb4 hg4 hat4)
                  | go_in)
                go_roundw
                case rel =>
                  refine ⟨k2 + 1, cs ++ [⟨za, ze, zb, zA, zc⟩], by omega, by go_num, hR4, fun y hy => ?_, by rw [List.length_append, List.length_singleton]; omega, ?_, hb4⟩
                  · rcases List.mem_append.1 hy with hy | hy
                    · exact HY.out.2.1 y hy
                    · obtain rfl : y = ⟨za, ze, zb, zA, zc⟩ := by simpa using hy
                      exact List.mem_of_getElem? HZ2.out.1
                  · rw [HCSN.out, ← HMC.out, if_pos hnd, List.map_append, HY.out.2.2.1]; rfl
                case measure => simp only [intOf]; omega
              · go_wp2_with (first
                  | (go_at_call 8; refine (hn' _).mono ?_; rintro e w' ⟨rfl, rfl⟩)
                  | go_in)
                go_roundw
                case rel => exact ⟨k2 + 1, cs, by omega, by go_num, HRV.out, HY.out.2.1, by omega, by rw [HCSN.out, ← HMC.out, if_neg (Int.not_le.2 (Int.not_le.1 (by omega)))]; exact HY.out.2.2.1, HBV.out⟩
                case measure => simp only [intOf]; omega
        · obtain rfl : k2 = nz := by omega
          have hkk2 : ¬ (k2 : Int) < (k2 : Int) := by omega
          have hfin : cs.map C4.c3 = chosM (firstM ls a) n := by
            rw [HY.out.2.2.1, List.take_of_length_le (by rw [List.length_map, ← HNZ.out]; exact Nat.le_refl _), HZ.out]; rfl
          have HFI := Lib.hid hfin
          obtain ⟨A9, c9, rfl, hc9, hC9⟩ := Kd.R_reads HY.out.1
          have HBy := Lib.hid (below_then HX.out.2.2.2 HX.out.2.2.2.size HY.out.2.2.2)
          have hgr := blk_grown HG.out (grown_of_below HBy.out) (by simp)
          clear hfin
          cases cs with
          | nil =>
            have f0 := blk_frozen hgr 0
            have f1 := blk_frozen hgr 1
            have f2 := blk_frozen hgr 2
            have y0 := (blk_cell hgr 0).trans rfl
            have y1 := (blk_cell hgr 1).trans rfl
            have y2 := (blk_cell hgr 2).trans rfl
            have HGR := Lib.hid hgr
            have HBt := Lib.hid (below_then HB.out HB.out.size HBy.out)
            have hno : chosenM ls a n = none := by unfold chosenM; rw [← HFI.out]; rfl
            have HNO := Lib.hid hno
            clear hgr hC9 hno
            simp only [List.length_nil] at hc9 ⊢
            go_wp2
            have b3 := below_set' (below_set' (below_set' HBt.out (g := w.heap.size + 1) (by omega) 0 (.int .i64 0)) (g := w.heap.size + 1) (by omega) 1 (.int .i64 0)) (g := w.heap.size + 1) (by omega) 2 (.slice none 0 0)
            have b5 := blk_put (cs' := #[.int .i64 0, .int .i64 0, .slice none 0 0]) (blk_put (blk_put HGR.out 0 (.int .i64 0) rfl) 1 (.int .i64 0) rfl) 2 (.slice none 0 0) (by simp)
            refine bodyPost_ret (results_ct rfl _ _ (w.heap.size + 1) 28 #[.int .i64 0, .int .i64 0, .slice none 0 0] (0, 0) _ rfl b5 Try.underlying28 rfl (by kernel_rfl)) rfl ?_
            exact ⟨⟨0, 0, [], none, 0⟩, by rw [HNO.out]; rfl, fun y hy => (by rw [HNO.out] at hy; cases hy), ⟨Nat.le_refl _, ⟨rfl, Nat.zero_le _, fun h => absurd h (Nat.lt_irrefl 0)⟩⟩, b3⟩
          | cons x r =>
            have hsome : chosenM ls a n = some (bestF x r).c3 := by
              unfold chosenM
              rw [← HFI.out, List.map_cons]
              simp only
              rw [bestF_c3]
            have hbm := HX.out.2.1 _ (HY.out.2.1 _ (bestF_mem r x))
            have hbl : (bestF x r).by_.length ≤ 140737488355328 := by
              have h1 : (bestF x r).c3 ∈ firstM ls a := by
                rw [← HZ.out]
                exact List.mem_map.2 ⟨_, HY.out.2.1 _ (bestF_mem r x), rfl⟩
              obtain ⟨l, hl, hxl⟩ := firstM_mem h1
              exact HW.out l hl _ hxl
            rename World => wy
            have hbest := best_calls x r A9 c9 wy hC9 hc9 (by omega)
            unfold agg4 at hbest
            have HSM := Lib.hid hsome
            have HBM := Lib.hid hbm
            have HBt := Lib.hid (below_then HB.out HB.out.size HBy.out)
            have HGR := Lib.hid hgr
            have hrl : ¬ (((x :: r).length : Int) = 0) := by simp only [List.length_cons]; omega
            obtain ⟨nr, hnr⟩ : ∃ d, d = (x :: r).length := ⟨_, rfl⟩
            rw [← hnr] at hbest hrl ⊢
            clear hC9 hsome hbm hgr hnr
            generalize bestF x r = q at *
            go_wp2_with fail
            refine hbest.mono ?_
            rintro e w5 ⟨rfl, hb5⟩
            have hB5 := below_then HBt.out HBt.out.size hb5
            have how := own_calls q w5 (HBM.out.below hB5) hbl
            have HB5 := Lib.hid hB5
            have HG5 := Lib.hid (blk_grown HGR.out (grown_of_below hb5) (by simp))
            clear hbest hb5 hB5
            go_wp2_with fail
            refine how.mono ?_
            rintro e w6 ⟨z', rfl, hz', hO, hb6⟩
            have hgr := blk_grown HG5.out (grown_of_below hb6) (by simp)
            have f0 := blk_frozen hgr 0
            have f1 := blk_frozen hgr 1
            have f2 := blk_frozen hgr 2
            have y0 := (blk_cell hgr 0).trans rfl
            have y1 := (blk_cell hgr 1).trans rfl
            have y2 := (blk_cell hgr 2).trans rfl
            have HG6 := Lib.hid hgr
            have HB6 := Lib.hid (below_then HB5.out HB5.out.size hb6)
            have HO := Lib.hid (And.intro hz' hO)
            have hlow : w.heap.size + 1 < w5.heap.size := (Array.getElem?_eq_some_iff.1 HG5.out).1
            clear how hz' hO hb6 hgr
            obtain ⟨za, ze, zb, zA, zc⟩ := z'
            simp only
            go_wp2
            have b3 := below_set' (below_set' (below_set' HB6.out (g := w.heap.size + 1) (by omega) 0 (.int .i64 za)) (g := w.heap.size + 1) (by omega) 1 (.int .i64 ze)) (g := w.heap.size + 1) (by omega) 2 (.slice zA zb.length zc)
            have b5 := blk_put (cs' := #[.int .i64 za, .int .i64 ze, .slice zA zb.length zc]) (blk_put (blk_put HG6.out 0 (.int .i64 za) rfl) 1 (.int .i64 ze) rfl) 2 (.slice zA zb.length zc) (by simp)
            have hO3 := R_set_low (R_set_low (R_set_low HO.out.2 hlow 0 (.int .i64 za)) hlow 1 (.int .i64 ze)) hlow 2 (.slice zA zb.length zc)
            refine bodyPost_ret (results_ct rfl _ _ (w.heap.size + 1) 28 #[.int .i64 za, .int .i64 ze, .slice zA zb.length zc] (0, 0) _ rfl b5 Try.underlying28 rfl (by kernel_rfl)) rfl ?_
            exact ⟨⟨za, ze, zb, zA, zc⟩, by rw [HSM.out]; rfl, fun y hy => (by rw [HSM.out] at hy; rw [← Option.some.inj hy]; exact HO.out.1.symm), OwnB.rd (z := ⟨za, ze, zb, zA, zc⟩) hO3, b3⟩
end Go.Proofs.Ytnnahbmhjjamcaa.Quor
