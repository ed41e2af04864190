import Derived.Test.YtnnahbmhjjamcaaQSame
/- QuorOrder: what is merged, and how it is read. -/
namespace Go.Proofs.Ytnnahbmhjjamcaa.Quor
open Go.RowKit Go.Maps Go.Proofs.YtnnahbmhjjamcaaW.PrintWords Go.Proofs.YtnnahbmhjjamcaaW.PrintMore Go.Proofs.Ytnnahbmhjjamcaa.Cut
theorem C_rows1 {w : World} {g : Nat} {A : Option Addr} {a : Nat} {x : List C3} {t : TypeId} (h : w.heap[g]? = some (.cells #[.slice A x.length a] t (0, 0))) (hx : KC.C w A x.length x) (hxa : x.length ≤ a) : (Kd.slice 28 KC).C w (some ⟨g, 0, none⟩) 1 [x] :=
  C_blk (d := Kd.slice 28 KC) (xs := [x]) h (by simp) (fun j p hj => by
    match j, hj with
    | 0, hj =>
      obtain rfl : x = p := by simpa using hj
      refine ⟨[.slice A x.length a], rfl, ⟨A, a, rfl, hxa, hx⟩, fun i u hi => ?_⟩
      match i, hi with
      | 0, hi => simpa using hi
      | i + 1, hi => simp at hi
    | j + 1, hj => simp at hj)
theorem few_len (ls : List (List C3)) : (fewM ls).length ≤ 9 ∧ (∀ l ∈ fewM ls, l.length ≤ 200) := by
  unfold fewM
  refine ⟨by rw [List.length_map, List.length_take]; omega, fun l hl => ?_⟩
  obtain ⟨y, _, rfl⟩ := List.mem_map.1 hl
  rw [List.length_take]; omega
theorem few_mem {ls : List (List C3)} {l : List C3} {x : C3} (hl : l ∈ fewM ls) (hx : x ∈ l) : ∃ y ∈ ls, x ∈ y := by
  unfold fewM at hl
  obtain ⟨y, hy, rfl⟩ := List.mem_map.1 hl
  exact ⟨y, List.mem_of_mem_take hy, List.mem_of_mem_take hx⟩
theorem flat_len : ∀ {ls : List (List C3)} {k : Nat}, (∀ l ∈ ls, l.length ≤ k) → ls.flatten.length ≤ ls.length * k
  | [], _, _ => by simp
  | l :: r, k, h => by
    have h1 := h l List.mem_cons_self
    have h2 := flat_len (ls := r) (k := k) fun y hy => h y (List.mem_cons_of_mem _ hy)
    rw [List.flatten_cons, List.length_append, List.length_cons, Nat.succ_mul]
    omega
/-- What is merged of few. -/
theorem few_flat (ls : List (List C3)) : (fewM ls).flatten.length ≤ 1800 := by
  have h := flat_len (few_len ls).2
  have := (few_len ls).1
  have h2 : (fewM ls).length * 200 ≤ 9 * 200 := Nat.mul_le_mul_right _ this
  omega
theorem merge_len_insK (a : Int) : ∀ (l : List Int), (insK a l).length ≤ l.length + 1
  | [] => by simp [insK]
  | b :: r => by
    rw [insK]
    split
    · simp
    · split
      · simp
      · have := merge_len_insK a r
        simp only [List.length_cons]; omega
theorem keys_len : ∀ (l : List P3), (keysM l).length ≤ l.length
  | [] => by simp [keysM]
  | y :: r => by
    have ih := keys_len r
    unfold keysM at ih ⊢
    rw [List.foldr_cons]
    have := merge_len_insK y.1 (List.foldr (fun x ks => insK x.1 ks) [] r)
    rw [List.length_cons]; omega
theorem merge_len (l : List P3) : (mergeM l).length ≤ l.length := by
  unfold mergeM
  exact Nat.le_trans (List.length_filterMap_le _ _) (keys_len l)
/-- Two neighbours of what rises. -/
theorem sorted_at {m : List P3} (hm : m.Pairwise (fun a b => a.1 < b.1)) {k : Nat} {x y : P3} (hx : m[k - 1]? = some x) (hy : m[k]? = some y) (h1 : 1 ≤ k) : x.1 < y.1 := by
  obtain ⟨i1, e1⟩ := List.getElem?_eq_some_iff.1 hx
  obtain ⟨i2, e2⟩ := List.getElem?_eq_some_iff.1 hy
  have := List.pairwise_iff_getElem.1 hm (k - 1) k i1 i2 (by omega)
  rw [e1, e2] at this
  exact this
/-- A cell of a reply is told. -/
theorem told {ls : List (List C3)} {l : List C3} {x : C3} (hl : l ∈ ls) (hx : x ∈ l) : ∃ y, findM (mergeM ls.flatten) x.1 = some y ∧ x.2.1 ≤ y.2.1 := by
  have hm : x ∈ ls.flatten := List.mem_flatten.2 ⟨l, hl, hx⟩
  obtain ⟨c, hc⟩ := bestAt_some (l := ls.flatten) (a := x.1) ⟨x, hm, rfl⟩
  have hcm := bestAt_mem hc
  have hin : c ∈ mergeM ls.flatten := mem_merge.2 (by rw [hcm.2]; exact hc)
  have hs : (findM (mergeM ls.flatten) x.1).isSome = true := by
    unfold findM
    rw [List.find?_isSome]
    exact ⟨c, hin, by simpa using hcm.2⟩
  obtain ⟨y, hy⟩ := Option.isSome_iff_exists.1 hs
  have hy2 : y.1 = x.1 := by
    unfold findM at hy
    simpa using List.find?_some hy
  have hym : y ∈ mergeM ls.flatten := by
    unfold findM at hy
    exact List.mem_of_find?_eq_some hy
  have hb := mem_merge.1 hym
  rw [hy2] at hb
  exact ⟨y, hy, bestAt_ge hb x hm rfl⟩
set_option maxHeartbeats 4000000 in
theorem order_walk (ls : List (List C3)) (A : Option Addr) (c : Nat) (w : World) (hC : (Kd.slice 28 KC).C w A ls.length ls) (hW : ∀ l ∈ ls, ∀ x ∈ l, W64 x.1 ∧ x.2.2.length ≤ 140737488355328) :
    Calls Try.prog 5 #[.slice A ls.length c] w fun e w' => e = .returned (.bool true) ∧ Below w.heap.size w w' := by
  have hsh := shown_calls w
  have HC := Lib.hid hC
  have HW := Lib.hid hW
  clear hC hW
  go_enter Try.func5, Try.ntmps5
  go_wp2_with fail
  refine hsh.mono ?_
  rintro e w1 ⟨rfl, hb1⟩
  have hf := few_calls ls A c w1 (Kd.C_below HC.out hb1)
  have HB1 := Lib.hid hb1
  clear hsh hb1
  go_wp2_with fail
  refine hf.mono ?_
  rintro e w2 ⟨v2, ds, rfl, hR2, hd2, hm2, hb2⟩
  obtain ⟨A1, c1, rfl, hc1, hK1⟩ := Kd.R_reads hR2
  have hL := C_of_K1 hK1 (fun d hd => RD.rd_below (hd2 d hd) hb2)
  have hdl : ds.length = (fewM ls).length := by rw [← hm2, List.length_map]
  rw [hm2] at hL
  rw [hdl] at hc1 ⊢
  have HB2 := Lib.hid (below_then HB1.out HB1.out.size hb2)
  clear hf hR2 hd2 hm2 hb2 hK1 hdl HB1 HC
  have hWf : ∀ l ∈ fewM ls, ∀ x ∈ l, W64 x.1 ∧ x.2.2.length ≤ 140737488355328 := fun l hl x hx => by
    obtain ⟨y, hy, hxy⟩ := few_mem hl hx
    exact HW.out y hy x hxy
  have hlen := few_len ls
  have hflat := few_flat ls
  clear HW
  generalize fewM ls = LL at *
  have hme := merge_calls LL A1 c1 w2 hL hWf (by omega)
  have HL := Lib.hid hL
  have HWf := Lib.hid hWf
  clear hL hWf
  go_wp2_with fail
  refine hme.mono ?_
  rintro e w3 ⟨v3, out, rfl, hR3, hO3, hm3, hb3⟩
  obtain ⟨A2, c2, rfl, hc2, hK2⟩ := Kd.R_reads hR3
  obtain ⟨_, _, hM⟩ := C_of_K4 hR3 (fun z hz => (hO3 z hz).rd)
  have hol : out.length = (mergeM LL.flatten).length := by rw [← hm3, List.length_map]
  rw [hm3] at hM
  rw [hol] at hc2 ⊢
  have HB3 := Lib.hid (below_then HB2.out HB2.out.size hb3)
  have HL3 := Lib.hid (Kd.C_below HL.out hb3)
  have HM := Lib.hid hM
  have HT := Lib.hid (fun l hl x hx => told (ls := LL) (l := l) (x := x) hl hx)
  have HS := Lib.hid (sorted_merge LL.flatten)
  have HWm : RowKit.Hid (∀ x ∈ mergeM LL.flatten, W64 x.1 ∧ x.2.2.length ≤ 140737488355328) := Lib.hid (fun x hx => by
    obtain ⟨l, hl, hxl⟩ := List.mem_flatten.1 (bestAt_mem (mem_merge.1 hx)).1
    exact HWf.out l hl x hxl)
  have hml := Nat.le_trans (merge_len LL.flatten) hflat
  clear hme hR3 hO3 hm3 hb3 hK2 hM hol HL HWf HB2
  generalize mergeM LL.flatten = M at *
  obtain ⟨n, hn⟩ : ∃ n, n = M.length := ⟨_, rfl⟩
  obtain ⟨nl, hnl⟩ : ∃ n, n = LL.length := ⟨_, rfl⟩
  rw [← hn] at HM hc2 hml ⊢
  rw [← hnl] at HL3 hc1 ⊢
  have HN := Lib.hid hn
  have HNL := Lib.hid hnl
  have hl9 : nl ≤ 9 := by rw [hnl]; exact hlen.1
  have HL2 := Lib.hid hlen.2
  clear hn hnl hlen
  go_wp2_with fail
  go_loopw [6] (fun i wx => ∃ k : Nat, (k ≤ n ∨ k = 0) ∧ i = .int .i64 ((k : Int) + 1) ∧ Below w3.heap.size w3 wx) (fun i _ => n + 2 - (intOf i).toNat)
  case atStart => exact ⟨0, .inr rfl, rfl, Below.refl _ _⟩
  case round =>
    obtain ⟨k, hk, rfl, hB⟩ := hrel
    by_cases hlt : k + 1 < n
    · have hlti : (k : Int) + 1 < (n : Int) := by omega
      have hk0 : (0 : Int) ≤ (k : Int) := by omega
      obtain ⟨ad, x, rfl, hx, _, a0, _, _⟩ := at_KC (Kd.C_below HM.out hB) (k + 1) hlt
      obtain ⟨ad2, y, e2, hy, _, b0, _, _⟩ := at_KC (Kd.C_below HM.out hB) k (by omega)
      obtain rfl := Option.some.inj e2
      have hxy := sorted_at HS.out (k := k + 1) (x := y.c3) (y := x.c3) hy hx (by omega)
      have hno : ¬ x.at_ ≤ y.at_ := by have : y.at_ < x.at_ := hxy; omega
      have HB := Lib.hid hB
      clear hx hy hxy e2 hB
      go_wp2_with fail
      go_quiet (fail)
      go_wp2_with fail
      go_roundw
      case rel => exact ⟨k + 1, .inl (by omega), by go_num, pw_below_drewN HB.out _⟩
      case measure => simp [intOf]; omega
    · have hlti : (n : Int) ≤ (k : Int) + 1 := by omega
      have HB := Lib.hid hB
      clear hB hk hlt
      go_wp2_with fail
      go_loopw [7] (fun i wx => ∃ k : Nat, k ≤ nl ∧ i = .int .i64 (k : Int) ∧ Below w3.heap.size w3 wx) (fun i _ => nl - (intOf i).toNat)
      case atStart => exact ⟨0, Nat.zero_le _, rfl, HB.out⟩
      case round =>
        obtain ⟨j, hj, rfl, hB⟩ := hrel
        by_cases hlt : j < nl
        · have hjl : (j : Int) < (nl : Int) := by omega
          have hj0 : (0 : Int) ≤ (j : Int) := by omega
          obtain ⟨ad, l, B, d, rfl, hl, a0, hlc, hCl⟩ := at_KR HL3.out j hlt
          have hlm := List.mem_of_getElem? hl
          have hl2 := HL2.out l hlm
          have HA0 := Lib.hid a0
          have HT2 := Lib.hid (HT.out l hlm)
          obtain ⟨nn, hnn⟩ : ∃ n, n = l.length := ⟨_, rfl⟩
          rw [← hnn] at hl2 hlc hCl HA0
          have HNN := Lib.hid hnn
          have HCl := Lib.hid hCl
          have HB2 := Lib.hid hB
          clear hlm hl hCl hnn a0 hB
          go_wp2_with fail
          go_loopw [8] (fun i wx => ∃ k : Nat, k ≤ nn ∧ i = .int .i64 (k : Int) ∧ Below w3.heap.size w3 wx) (fun i _ => nn - (intOf i).toNat)
          case atStart => exact ⟨0, Nat.zero_le _, rfl, HB2.out⟩
          case round =>
            obtain ⟨k, hk, rfl, hB⟩ := hrel
            have a0 := cell_step (grown_of_below hB) HA0.out (by simp)
            by_cases hltk : k < nn
            · have hkl : (k : Int) < (nn : Int) := by omega
              have hk0 : (0 : Int) ≤ (k : Int) := by omega
              obtain ⟨ad2, z, rfl, hz, _, b0, b1, _⟩ := at_KC (Kd.C_below HCl.out hB) k hltk
              obtain ⟨y, hy, hye⟩ := HT2.out z.c3 (List.mem_of_getElem? hz)
              have hfi := first_calls M A2 c2 z.at_ wr (by rw [← HN.out]; exact Kd.C_below HM.out hB)
              rw [← HN.out, show findM M z.at_ = some y from hy] at hfi
              have HY := Lib.hid (And.intro hy hye)
              have HB := Lib.hid hB
              have A0 := Lib.hid a0
              have B1 := Lib.hid b1
              clear hz hy hye hB b1
              go_wp2_with fail
              refine hfi.mono ?_
              rintro e w5 ⟨u, rfl, hu, _, hb5⟩
              obtain rfl : y = u.c3 := hu _ HY.out.1
              have q0 := cell_step (grown_of_below hb5) A0.out (by simp)
              have q1 := cell_step (grown_of_below hb5) B1.out (by simp)
              have HU := Lib.hid HY.out.2
              have HB5 := Lib.hid (below_then HB.out HB.out.size hb5)
              clear hfi hu hb5 a0 b0
              go_wp2_with fail
              have g0 := cell_step (grown_of_below ((Below.refl w5.heap.size w5).alloc (Nat.le_refl _) (.cells #[.int .i64 u.at_, .int .i64 u.ep, .slice u.A u.by_.length u.c] 28))) q0 (by simp)
              have g1 := cell_step (grown_of_below ((Below.refl w5.heap.size w5).alloc (Nat.le_refl _) (.cells #[.int .i64 u.at_, .int .i64 u.ep, .slice u.A u.by_.length u.c] 28))) q1 (by simp)
              have g2 := (blk_cell (MapKept.heap_alloc w5 (.cells #[.int .i64 u.at_, .int .i64 u.ep, .slice u.A u.by_.length u.c] 28)).1 1).trans rfl
              have HB6 := Lib.hid (HB5.out.alloc HB5.out.size (.cells #[.int .i64 u.at_, .int .i64 u.ep, .slice u.A u.by_.length u.c] 28))
              have hno : ¬ u.ep < z.ep := Int.not_lt.2 HU.out
              clear q0 q1
              generalize w5.alloc (.cells #[.int .i64 u.at_, .int .i64 u.ep, .slice u.A u.by_.length u.c] 28) = W at *
              go_quiet (fail)
              go_wp2_with fail
              go_roundw
              case rel => exact ⟨k + 1, by omega, by go_num, pw_below_drewN HB6.out _⟩
              case measure => simp [intOf]; omega
            · have hkl : (nn : Int) ≤ (k : Int) := by omega
              have HB3 := Lib.hid hB
              clear hB
              go_wp2_with fail
              go_roundw
              case rel => exact ⟨j + 1, by omega, by go_num, HB3.out⟩
              case measure => simp [intOf]; omega
        · have hjl : (nl : Int) ≤ (j : Int) := by omega
          have HB := Lib.hid hB
          clear hB
          go_wp2_with fail
          have HMM : RowKit.Hid (KC.C w3 A2 M.length M) := Lib.hid (by rw [← HN.out]; exact HM.out)
          have hcc : M.length ≤ c2 := by rw [← HN.out]; exact hc2
          have HCC := Lib.hid hcc
          clear hcc
          have hmn : M.length ≤ 1800 := by rw [← HN.out]; exact hml
          have r5 := (MapKept.heap_alloc wr (.cells #[.slice A2 n c2] 31)).1
          have hB5 := HB.out.alloc HB.out.size (.cells #[.slice A2 n c2] 31)
          have hz5 : wr.heap.size ≤ (wr.alloc (.cells #[.slice A2 n c2] 31)).heap.size := by simp
          have HBa5 := Lib.hid hB5
          clear hB5 hz5
          generalize wr.alloc (.cells #[.slice A2 n c2] 31) = W5 at *
          have hm5 := merge_calls [M] (some ⟨wr.heap.size, 0, none⟩) 1 W5 (C_rows1 (x := M) (by rw [← HN.out]; exact r5) (Kd.C_below HMM.out HBa5.out) HCC.out) (fun l hl => by
            obtain rfl : l = M := by simpa using hl
            exact HWm.out) (by simp only [List.flatten_cons, List.flatten_nil, List.length_append, List.length_nil]; omega)
          rw [show mergeM ([M] : List (List C3)).flatten = M from merge_same HS.out (fun x => by simp)] at hm5
          clear r5
          refine hm5.mono ?_
          rintro e w5a ⟨v5, out5, rfl, hR5, hO5, hm5x, hb5⟩
          obtain ⟨A5a, c5a, rfl, hc5a, hK5⟩ := Kd.R_reads hR5
          obtain ⟨_, _, hM5⟩ := C_of_K4 hR5 (fun z hz => (hO5 z hz).rd)
          have hol5 : out5.length = M.length := by rw [← hm5x, List.length_map]
          rw [hm5x] at hM5
          rw [hol5] at hc5a ⊢
          have HBb5 := Lib.hid (below_then HBa5.out HBa5.out.size hb5)
          have hca5 := cells_calls hM5 hc5a (Kd.C_below HMM.out HBb5.out) HCC.out (by rw [← HN.out]; omega)
          clear hm5 hR5 hO5 hm5x hb5 hK5 hM5 hol5
          rw [← HN.out] at hc5a hca5 ⊢
          go_wp2_with fail
          refine hca5.mono ?_
          rintro e w5b ⟨rfl, hb5b⟩
          have HBc5 := Lib.hid (below_then HBb5.out HBb5.out.size hb5b)
          clear hca5 hb5b
          go_wp2_with fail
          have r6 := (MapKept.heap_alloc w5b (.cells #[.slice A2 n c2, .slice A2 n c2] 31)).1
          have hB6 := HBc5.out.alloc HBc5.out.size (.cells #[.slice A2 n c2, .slice A2 n c2] 31)
          have hz6 : w5b.heap.size ≤ (w5b.alloc (.cells #[.slice A2 n c2, .slice A2 n c2] 31)).heap.size := by simp
          have HBa6 := Lib.hid hB6
          clear hB6 hz6
          generalize w5b.alloc (.cells #[.slice A2 n c2, .slice A2 n c2] 31) = W6 at *
          have hm6 := merge_calls [M, M] (some ⟨w5b.heap.size, 0, none⟩) 2 W6 (C_rows2 (x := M) (y := M) (by rw [← HN.out]; exact r6) (Kd.C_below HMM.out HBa6.out) HCC.out (Kd.C_below HMM.out HBa6.out) HCC.out) (fun l hl => by
            obtain rfl : l = M := by simpa using hl
            exact HWm.out) (by simp only [List.flatten_cons, List.flatten_nil, List.length_append, List.length_nil]; omega)
          rw [show mergeM ([M, M] : List (List C3)).flatten = M from merge_same HS.out (fun x => by simp)] at hm6
          clear r6
          refine hm6.mono ?_
          rintro e w6a ⟨v6, out6, rfl, hR6, hO6, hm6x, hb6⟩
          obtain ⟨A6a, c6a, rfl, hc6a, hK6⟩ := Kd.R_reads hR6
          obtain ⟨_, _, hM6⟩ := C_of_K4 hR6 (fun z hz => (hO6 z hz).rd)
          have hol6 : out6.length = M.length := by rw [← hm6x, List.length_map]
          rw [hm6x] at hM6
          rw [hol6] at hc6a ⊢
          have HBb6 := Lib.hid (below_then HBa6.out HBa6.out.size hb6)
          have hca6 := cells_calls hM6 hc6a (Kd.C_below HMM.out HBb6.out) HCC.out (by rw [← HN.out]; omega)
          clear hm6 hR6 hO6 hm6x hb6 hK6 hM6 hol6
          rw [← HN.out] at hc6a hca6 ⊢
          go_wp2_with fail
          refine hca6.mono ?_
          rintro e w6b ⟨rfl, hb6b⟩
          have HBc6 := Lib.hid (below_then HBb6.out HBb6.out.size hb6b)
          clear hca6 hb6b
          go_wp2_with fail
          go_ret
          exact ⟨rfl, below_then HB3.out HB3.out.size HBc6.out⟩
end Go.Proofs.Ytnnahbmhjjamcaa.Quor
