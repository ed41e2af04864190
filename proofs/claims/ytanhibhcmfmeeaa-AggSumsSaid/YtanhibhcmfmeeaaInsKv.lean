import Derived.Test.YtanhibhcmfmeeaaSlK
import Derived.Test.YtanhibhcmfmeeaaCut
import Derived.Test.YtanhibhcmfmeeaaProg
import Derived.Deep.RegionLaw
import Derived.Lib.Walk
/- The walk of slices.Insert at one element of 2 cells, in a row of the call's own. -/
namespace Go.Proofs.Ytanhibhcmfmeeaa.Kv
open Go.RowKit Go.Proofs.YtanhibhcmfmeeaaW.PrintWords Go.Proofs.Ytanhibhcmfmeeaa.Cut Go.Proofs.Ytanhibhcmfmeeaa.Fr Go.Proofs.Ytanhibhcmfmeeaa.SlK
abbrev zeroE : Value := .agg #[.int .i64 0, .int .i64 0]
theorem infoE : (Try.prog.info? 97).map (fun i => (i.zero, i.size, i.bytes)) = some (some zeroE, 2, 16) := by kernel_rfl
theorem sizeE : (Try.prog.info? 97).map (·.size) = some 2 := by kernel_rfl
/-- What Insert leaves. -/
def InsP (w : World) (base : Nat) (v : Value) (n i : Nat) (cs ec : List Value) (e : Ending) (w' : World) : Prop :=
  ∃ v', e = .returned v' ∧ w'.ownsRow base 97 2 v' (n + 1) (cs.take (i * 2) ++ ec ++ cs.drop (i * 2)) ∧ w.grownBy w' v.ownBlock ∧ (v'.ownBlock = v.ownBlock ∨ ∃ b, v'.ownBlock = some b ∧ w.heap.size ≤ b)
theorem grownBy_set (w : World) (g : Nat) (cs : Array Value) : w.grownBy (w.setRow g cs) (some g) := ⟨rfl, rfl, rfl, by simp [World.setRow], fun k _ hk => setRow_other w g k cs (fun e => hk (by rw [e]))⟩
theorem grownBy_new {w : World} (W : World) (g : Nat) (cs : Array Value) {row : Option Nat} (h : w.grownBy W row) (hg : w.heap.size ≤ g) : w.grownBy (W.setRow g cs) row :=
  ⟨h.os, h.tape, h.output, by simpa [World.setRow] using h.size, fun k hk hr => (setRow_other W g k cs (by omega)).trans (h.block k hk hr)⟩
theorem grown_dr (w : World) (row : Option Nat) : w.grownBy w.drew row := ⟨rfl, rfl, rfl, Nat.le_refl _, fun _ _ _ => rfl⟩
theorem cells_at {w : World} {g n : Nat} {cur : Array Value} {cs : List Value} (hb : w.heap[g]? = some (.cells cur 97 (0, 0))) (ht : cur.toList.take (n * 2) = cs) (a : Nat) (j : Nat) (v : Value) (hj : (cs.drop a)[j]? = some v) : w.cell? ((⟨g, a, none⟩ : Addr).add j) = some v := by
  rw [add_plain', blk_cell hb, ← Array.getElem?_toList]
  rw [List.getElem?_drop, ← ht, List.getElem?_take] at hj
  split at hj
  · exact hj
  · cases hj
where
  add_plain' : ((⟨g, a, none⟩ : Addr).add j) = ⟨g, a + j, none⟩ := by unfold Addr.add; split <;> simp_all
set_option maxHeartbeats 4000000 in
set_option maxRecDepth 100000 in
theorem ins_end (w : World) (base : Nat) (v : Value) (n : Nat) (cs ec : List Value) (vb : Nat) (hown : w.ownsRow base 97 2 v n cs) (hbase : base ≤ w.heap.size) (hv : w.heap[vb]? = some (.cells ec.toArray 97 (0, 0))) (hec : ec.length = 2) (h1 : ∀ u ∈ ec, u.oneCell' = true) (hn : n ≤ 1000000) :
    Calls Try.prog 54 #[v, .int .i64 n, .slice (some ⟨vb, 0, none⟩) 1 1] w (InsP w base v n n cs ec) := by
  obtain ⟨i0, hi, hz⟩ := Option.map_eq_some_iff.1 infoE
  simp only [Prod.mk.injEq] at hz
  obtain ⟨hz0, hz1, hz2⟩ := hz
  obtain ⟨v1, w1, hr, ho, hg, _, hat⟩ := run_append_own_at (P := Try.prog) w base 98 98 97 i0 zeroE 2 16 Try.underlying98 hi hz0 hz1 hz2 rfl (by decide) v n cs hown ⟨vb, 0, none⟩ 1 1 ec (by omega)
    (fun j u hu => by
      have e : ((⟨vb, 0, none⟩ : Addr).add j) = ⟨vb, j, none⟩ := add_plain vb j
      rw [e, blk_cell hv]
      simpa using hu) h1 (by simp only [maxLen]; omega) (by omega) hbase
  have hlen := hown.1
  have hfin : InsP w base v n n cs ec (.returned v1) w1 := by
    refine ⟨v1, rfl, ?_, hg, hat.imp id fun h => ⟨_, h, Nat.le_refl _⟩⟩
    rw [← hlen, List.take_length, List.drop_length, List.append_nil]
    exact ho
  have hcl : ∃ A c, v = .slice A n c ∧ n ≤ c := by
    rcases hown.2 with ⟨rfl, rfl⟩ | ⟨g, cap, cur, rfl, _, _, h2, _⟩
    · exact ⟨none, 0, rfl, Nat.le_refl _⟩
    · exact ⟨_, cap, rfl, h2⟩
  have HF := Lib.hid hfin
  clear hfin ho hg hat hown hv h1 hz0 hz1 hz2 hi hlen hec
  obtain ⟨A, c, rfl, hnc⟩ := hcl
  go_enter Try.func54, Try.ntmps54
  go_wp2_with (at_builtin; refine Lib.wpList_append_run _ rfl _ _ _ _ rfl _ _ rfl rfl _ _ hr ?_)
  all_goals
    go_ret
    first | exact HF.out | (obtain rfl : c = n := (by assumption); exact HF.out)
theorem overlaps_no (w : World) (g vb o n c lb cb : Nat) (cur ec : Array Value) (hb : w.heap[g]? = some (.cells cur 97 (0, 0))) (hv : w.heap[vb]? = some (.cells ec 97 (0, 0))) (hne : vb ≠ g) (hcur : cur.size ≠ 0) :
    (callFunc 66 #[.slice (some ⟨vb, 0, none⟩) n c, .slice (some ⟨g, o, none⟩) lb cb]).run Try.prog w = .ok (.value (.bool false)) w := by
  have hz : ∀ w : World, (Go.sizeOf 97).run Try.prog w = .ok 2 w := fun w => by kernel_rfl
  rw [run_callFunc_extern Try.func66 (by kernel_rfl) (by kernel_rfl) (by kernel_rfl) (e := Extern.SlicesOverlaps.overlaps #[98, 98] #[4]) (by kernel_rfl),
    Lib.run_overlaps_apart w 98 4 97 Try.underlying98 2 hz ⟨vb, 0, none⟩ ⟨g, o, none⟩ n c lb cb hne 97 97 ec.size cur.size (by simp [World.shape?, hv]) (by simp [World.shape?, hb]) hcur (by simp [World.frozen?, hv]) (by simp [World.frozen?, hv])]
  rfl
set_option maxHeartbeats 8000000 in
set_option maxRecDepth 100000 in
theorem ins_room (w : World) (base g cap n i vb : Nat) (cur : Array Value) (cs ec : List Value) (hg : base ≤ g) (hb : w.heap[g]? = some (.cells cur 97 (0, 0))) (hc : cur.size = cap * 2) (hm : cap ≤ 9223372036854775807) (ht : cur.toList.take (n * 2) = cs) (hcl : cs.length = n * 2) (h1c : ∀ u ∈ cs, u.oneCell' = true)
    (hi : i < n) (hroom : n + 1 ≤ cap) (hn : n ≤ 1000000) (hv : w.heap[vb]? = some (.cells ec.toArray 97 (0, 0))) (hec : ec.length = 2) (h1 : ∀ u ∈ ec, u.oneCell' = true) (hne : vb ≠ g) :
    Calls Try.prog 54 #[.slice (some ⟨g, 0, none⟩) n cap, .int .i64 i, .slice (some ⟨vb, 0, none⟩) 1 1] w (InsP w base (.slice (some ⟨g, 0, none⟩) n cap) n i cs ec) := by
  have hdl : (cs.drop (i * 2)).length = (n - i) * 2 := by rw [List.length_drop, hcl]; omega
  have hov := fun lb cb => overlaps_no w g vb ((i + 1) * 2) 1 1 lb cb cur ec.toArray hb hv hne (by omega)
  have hcp1 : ∀ (W : World) ty dc sc, W.heap[g]? = some (.cells cur 97 (0, 0)) → (Builtin.copy_ #[98, 98] ty #[.slice (some ⟨g, (i + 1) * 2, none⟩) (n - i) dc, .slice (some ⟨g, i * 2, none⟩) (n + 1 - i) sc]).run Try.prog W = .ok (goInt (n - i : Nat)) (W.setRow g (cur.toList.take ((i + 1) * 2) ++ cs.drop (i * 2) ++ cur.toList.drop ((i + 1) * 2 + (cs.drop (i * 2)).length)).toArray) := fun W ty dc sc hW =>
    run_copyK W _ _ ty 97 g ((i + 1) * 2) (n - i) dc ⟨g, i * 2, none⟩ (n + 1 - i) sc cur 97 (cs.drop (i * 2)) 2 (n - i) Try.underlying98 sizeE hW (by simp only [Nat.min_def]; split <;> omega) hdl (fun j v hj => cells_at hW ht _ j v hj) (by rw [hdl]; omega) (fun v hv => h1c v (List.mem_of_mem_drop hv))
  obtain ⟨cur1, hcur1⟩ : ∃ cur1 : Array Value, cur1 = (cur.toList.take ((i + 1) * 2) ++ cs.drop (i * 2) ++ cur.toList.drop ((i + 1) * 2 + (cs.drop (i * 2)).length)).toArray := ⟨_, rfl⟩
  have hs1 : cur1.size = cap * 2 := by
    rw [hcur1]
    simp only [List.size_toArray, List.length_append, List.length_take, List.length_drop, Array.length_toList]
    omega
  rw [← hcur1] at hcp1
  have hcp2 : ∀ (W : World) ty dc, W.heap[g]? = some (.cells cur1 97 (0, 0)) → W.heap[vb]? = some (.cells ec.toArray 97 (0, 0)) → (Builtin.copy_ #[98, 98] ty #[.slice (some ⟨g, i * 2, none⟩) (n + 1 - i) dc, .slice (some ⟨vb, 0, none⟩) 1 1]).run Try.prog W = .ok (goInt (1 : Nat)) (W.setRow g (cur1.toList.take (i * 2) ++ ec ++ cur1.toList.drop (i * 2 + ec.length)).toArray) := fun W ty dc hW hWv =>
    run_copyK W _ _ ty 97 g (i * 2) (n + 1 - i) dc ⟨vb, 0, none⟩ 1 1 cur1 97 ec 2 1 Try.underlying98 sizeE hW (by simp only [Nat.min_def]; split <;> omega) (by omega) (fun j u hu => by
      have e : ((⟨vb, 0, none⟩ : Addr).add j) = ⟨vb, j, none⟩ := add_plain vb j
      rw [e, blk_cell hWv]
      simpa using hu) (by rw [hec]; omega) h1
  have hlist := room_list cur.toList ec (cs.drop (i * 2)) (i * 2) 2 (by rw [hdl, Array.length_toList]; omega) hec
  have htk : cur.toList.take (i * 2) = cs.take (i * 2) := by rw [← ht, List.take_take, Nat.min_eq_left (by omega)]
  obtain ⟨cur2, hcur2⟩ : ∃ cur2 : Array Value, cur2 = (cur1.toList.take (i * 2) ++ ec ++ cur1.toList.drop (i * 2 + ec.length)).toArray := ⟨_, rfl⟩
  rw [← hcur2] at hcp2
  have hfin : ∀ W : World, w.grownBy W (some g) → W.heap[g]? = some (.cells cur2 97 (0, 0)) → InsP w base (.slice (some ⟨g, 0, none⟩) n cap) n i cs ec (.returned (.slice (some ⟨g, 0, none⟩) (n + 1) cap)) W := fun W hG hW => by
    refine ⟨_, rfl, ⟨?_, .inr ⟨g, cap, cur2, rfl, hg, hW, hroom, by simpa [maxLen] using hm, ?_, ?_⟩⟩, hG, .inl rfl⟩
    · simp only [List.length_append, List.length_take, hdl, hec, hcl]; omega
    · rw [hcur2]
      simp only [List.size_toArray, List.length_append, List.length_take, List.length_drop, Array.length_toList, hs1, hec]
      omega
    · rw [← htk, ← hlist]
      have e : (n + 1) * 2 = i * 2 + 2 + (cs.drop (i * 2)).length := by rw [hdl]; omega
      rw [e, hcur2, hcur1]
      have e2 : (i + 1) * 2 = i * 2 + 2 := by omega
      rw [e2]
  have HF := Lib.hid hfin
  have hin : ¬ ((i : Int) = (n : Int)) := by omega
  have hw1 : IntKind.i64.wrap ((i : Int) + 1) = (i : Int) + 1 := by rw [IntKind.wrap_i64]; omega
  have hw2 : (0 : Int) ≤ (i : Int) + 1 := by omega
  have hw3 : ((i : Int) + 1).toNat = i + 1 := by omega
  have hb2 : ¬ (cap = i + 1) := by omega
  have hb3 : ¬ (cap = i) := by omega
  have hb4 : ¬ (cap = n + 1) ∨ cap = n + 1 := by omega
  have hi1 : (i : Int) < (n : Int) := by omega
  have hi2 : (i : Int) + 1 ≤ (n : Int) + 1 := by omega
  have hi3 : (n : Int) + 1 ≤ (cap : Int) := by omega
  have hi4 : (i : Int) ≤ (n : Int) + 1 := by omega
  have HV := Lib.hid hv; have HB := Lib.hid hb
  have HC1 := Lib.hid hcp1; have HC2 := Lib.hid hcp2
  clear hfin hlist htk hcur1 hcur2 hs1 hdl hv hb hcp1 hcp2 ht hcl h1c h1 hec hc hb4
  go_enter Try.func54, Try.ntmps54
  go_wp2_with (simp only [hov])
  have HB1 : Hid ((w.drew.setRow g cur1).heap[g]? = some (.cells cur1 97 (0, 0))) := Lib.hid (setRow_heap w.drew g cur cur1 _ _ HB.out)
  have HV1 : Hid ((w.drew.setRow g cur1).heap[vb]? = some (.cells ec.toArray 97 (0, 0))) := Lib.hid ((setRow_other w.drew g vb cur1 hne).trans HV.out)
  go_region_law (refine step_copy_run rfl (.tmp 73) (.tmp 76) 98 98 rfl (.slice (some ⟨g, (i + 1) * 2, none⟩) (n - i) (cap - (i + 1))) (.slice (some ⟨g, i * 2, none⟩) (n + 1 - i) (cap - i)) (by simp [Act.eval, Act.put]) (by simp [Act.eval, Act.put]) (HC1.out _ _ _ _ HB.out) ?_)
  go_wp2_with (refine wpList_copy_run _ rfl (.tmp 80) (.tmp 81) 98 98 rfl _ _ rfl rfl (HC2.out _ _ _ HB1.out HV1.out) ?_)
  go_ret
  refine HF.out _ ?_ (setRow_heap _ g cur1 cur2 _ _ HB1.out)
  exact World.grownBy.trans (grown_dr w (some g)) (World.grownBy.trans (grownBy_set w.drew g cur1) (grownBy_set _ g cur2))
set_option maxHeartbeats 8000000 in
set_option maxRecDepth 100000 in
theorem ins_grow (w : World) (base g cap n i vb : Nat) (cur : Array Value) (cs ec : List Value) (hbase : base ≤ w.heap.size) (hb : w.heap[g]? = some (.cells cur 97 (0, 0))) (ht : cur.toList.take (n * 2) = cs) (hcl : cs.length = n * 2) (h1c : ∀ u ∈ cs, u.oneCell' = true)
    (hi : i < n) (hnc : n ≤ cap) (hroom : cap < n + 1) (hn : n ≤ 1000000) (hv : w.heap[vb]? = some (.cells ec.toArray 97 (0, 0))) (hec : ec.length = 2) (h1 : ∀ u ∈ ec, u.oneCell' = true) :
    Calls Try.prog 54 #[.slice (some ⟨g, 0, none⟩) n cap, .int .i64 i, .slice (some ⟨vb, 0, none⟩) 1 1] w (InsP w base (.slice (some ⟨g, 0, none⟩) n cap) n i cs ec) := by
  obtain ⟨i0, hi0, hz⟩ := Option.map_eq_some_iff.1 infoE
  simp only [Prod.mk.injEq] at hz
  obtain ⟨hz0, hzs, hzb⟩ := hz
  have hgw : g < w.heap.size := (Array.getElem?_eq_some_iff.1 hb).1
  have hvw : vb < w.heap.size := (Array.getElem?_eq_some_iff.1 hv).1
  have hdl : (cs.drop (i * 2)).length = (n - i) * 2 := by rw [List.length_drop, hcl]; omega
  have hkk : (n : Int) + 1 - (i : Int) = ((n + 1 - i : Nat) : Int) := by omega
  have hik : i + (n + 1 - i) = n + 1 := by omega
  have hold : (Builtin.firstCells i0.size i (.slice (some ⟨g, 0, none⟩) i cap)).run Try.prog w.drew = .ok (cs.take (i * 2)).toArray w.drew := by
    rw [hzs]
    exact run_firstCells_some w.drew 2 i ⟨g, 0, none⟩ i cap (cs.take (i * 2)) (by rw [List.length_take]; omega) (fun j v hj => by
      rw [List.getElem?_take] at hj
      split at hj
      · exact cells_at (w := w.drew) hb ht 0 j v (by rw [List.drop_zero]; exact hj)
      · cases hj)
  obtain ⟨G, hG⟩ : ∃ G, G = grownCap w (n + 1) cap 97 := ⟨_, rfl⟩
  obtain ⟨ROW, hROW⟩ : ∃ ROW : Array Value, ROW = (cs.take (i * 2)).toArray ++ Builtin.zeroCells zeroE.cells (n + 1 - i) ++ Builtin.zeroCells zeroE.cells (G - (n + 1)) := ⟨_, rfl⟩
  have hGn : n + 1 ≤ G := by rw [hG]; exact grownCap_ge w _ _ _
  have hG63 : G ≤ 9223372036854775807 := by
    have := grownCap_le_maxLen w (n + 1) cap 97 (by unfold maxLen; omega)
    rw [← hG] at this
    unfold maxLen at this
    omega
  have hzc : zeroE.cells.size = 2 := rfl
  have hRl : ROW.size = G * 2 := by
    rw [hROW]
    simp only [Array.size_append, List.size_toArray, List.length_take, size_zeroCells, hzc, hcl]
    omega
  have hrz : ∀ ty, (Builtin.append_ #[98, 3] ty #[.slice (some ⟨g, 0, none⟩) i cap, .int .i64 ((n : Int) + 1 - (i : Int))]).run Try.prog w = .ok (.slice (some ⟨w.heap.size, 0, none⟩) (n + 1) G) (w.drew.alloc (.cells ROW 97)) := fun ty => by
    have h := Lib.run_append_grow_zeros w 98 3 ty 97 i0 _ .i64 .i64 Try.underlying98 Try.underlying3 hi0 hz0 (some ⟨g, 0, none⟩) i cap (cs.take (i * 2)) hold (n + 1 - i) (by omega) (by rw [hzs]; decide) (by omega) (by omega) (by rw [hzb]; omega) (by rw [hzb, hik]; exact growslice_fits hroom (by omega))
    rw [hik, ← hG, ← hROW] at h
    rw [hkk]
    exact h
  obtain ⟨W1, hW1⟩ : ∃ W1, W1 = w.drew.alloc (.cells ROW 97) := ⟨_, rfl⟩
  rw [← hW1] at hrz
  have hR1 : W1.heap[w.heap.size]? = some (.cells ROW 97 (0, 0)) := by rw [hW1]; exact heap_alloc_new w.drew _
  have hg1 : W1.heap[g]? = some (.cells cur 97 (0, 0)) := by rw [hW1]; exact (heap_alloc_old w.drew _ hgw).trans hb
  have hv1 : W1.heap[vb]? = some (.cells ec.toArray 97 (0, 0)) := by rw [hW1]; exact (heap_alloc_old w.drew _ hvw).trans hv
  have hG1 : w.grownBy W1 (some g) := by rw [hW1]; exact World.grownBy.trans (grown_dr w (some g)) (World.grownBy_alloc _ _ _)
  have hcp1 : ∀ (W : World) ty dc, W.heap[w.heap.size]? = some (.cells ROW 97 (0, 0)) → W.heap[vb]? = some (.cells ec.toArray 97 (0, 0)) → (Builtin.copy_ #[98, 98] ty #[.slice (some ⟨w.heap.size, i * 2, none⟩) (n + 1 - i) dc, .slice (some ⟨vb, 0, none⟩) 1 1]).run Try.prog W = .ok (goInt (1 : Nat)) (W.setRow w.heap.size (ROW.toList.take (i * 2) ++ ec ++ ROW.toList.drop (i * 2 + ec.length)).toArray) := fun W ty dc hW hWv =>
    run_copyK W _ _ ty 97 w.heap.size (i * 2) (n + 1 - i) dc ⟨vb, 0, none⟩ 1 1 ROW 97 ec 2 1 Try.underlying98 sizeE hW (by simp only [Nat.min_def]; split <;> omega) (by omega) (fun j u hu => by
      have e : ((⟨vb, 0, none⟩ : Addr).add j) = ⟨vb, j, none⟩ := add_plain vb j
      rw [e, blk_cell hWv]
      simpa using hu) (by rw [hec, hRl]; omega) h1
  obtain ⟨cur1, hcur1⟩ : ∃ cur1 : Array Value, cur1 = (ROW.toList.take (i * 2) ++ ec ++ ROW.toList.drop (i * 2 + ec.length)).toArray := ⟨_, rfl⟩
  have hs1 : cur1.size = G * 2 := by
    rw [hcur1]
    simp only [List.size_toArray, List.length_append, List.length_take, List.length_drop, Array.length_toList, hec]
    omega
  rw [← hcur1] at hcp1
  have hcp2 : ∀ (W : World) ty dc sc, W.heap[w.heap.size]? = some (.cells cur1 97 (0, 0)) → W.heap[g]? = some (.cells cur 97 (0, 0)) → (Builtin.copy_ #[98, 98] ty #[.slice (some ⟨w.heap.size, (i + 1) * 2, none⟩) (n - i) dc, .slice (some ⟨g, i * 2, none⟩) (n - i) sc]).run Try.prog W = .ok (goInt (n - i : Nat)) (W.setRow w.heap.size (cur1.toList.take ((i + 1) * 2) ++ cs.drop (i * 2) ++ cur1.toList.drop ((i + 1) * 2 + (cs.drop (i * 2)).length)).toArray) := fun W ty dc sc hW hWg =>
    run_copyK W _ _ ty 97 w.heap.size ((i + 1) * 2) (n - i) dc ⟨g, i * 2, none⟩ (n - i) sc cur1 97 (cs.drop (i * 2)) 2 (n - i) Try.underlying98 sizeE hW (by simp only [Nat.min_def]; split <;> omega) hdl (fun j v hj => cells_at hWg ht _ j v hj) (by rw [hdl]; omega) (fun v hv => h1c v (List.mem_of_mem_drop hv))
  obtain ⟨cur2, hcur2⟩ : ∃ cur2 : Array Value, cur2 = (cur1.toList.take ((i + 1) * 2) ++ cs.drop (i * 2) ++ cur1.toList.drop ((i + 1) * 2 + (cs.drop (i * 2)).length)).toArray := ⟨_, rfl⟩
  rw [← hcur2] at hcp2
  have hlist := grow_list ROW.toList ec (cs.drop (i * 2)) (i * 2) 2 (by rw [hdl, Array.length_toList]; omega) hec
  have htk : ROW.toList.take (i * 2) = cs.take (i * 2) := by
    rw [hROW, Array.toList_append, Array.toList_append, List.append_assoc]
    exact List.take_left' (by rw [List.length_take, hcl]; omega)
  have hfin : ∀ W : World, w.grownBy W (some g) → W.heap[w.heap.size]? = some (.cells cur2 97 (0, 0)) → InsP w base (.slice (some ⟨g, 0, none⟩) n cap) n i cs ec (.returned (.slice (some ⟨w.heap.size, 0, none⟩) (n + 1) G)) W := fun W hGr hW => by
    refine ⟨_, rfl, ⟨?_, .inr ⟨w.heap.size, G, cur2, rfl, hbase, hW, hGn, by simpa [maxLen] using hG63, ?_, ?_⟩⟩, hGr, .inr ⟨_, rfl, Nat.le_refl _⟩⟩
    · simp only [List.length_append, List.length_take, hdl, hec, hcl]; omega
    · rw [hcur2]
      simp only [List.size_toArray, List.length_append, List.length_take, List.length_drop, Array.length_toList, hs1]
      omega
    · rw [← htk, ← hlist]
      have e : (n + 1) * 2 = i * 2 + 2 + (cs.drop (i * 2)).length := by rw [hdl]; omega
      rw [e, hcur2, hcur1]
      have e2 : (i + 1) * 2 = i * 2 + 2 := by omega
      rw [e2]
  have HF := Lib.hid hfin
  have HR := Lib.hid hR1; have HV := Lib.hid hv1; have HB := Lib.hid hg1; have HGR := Lib.hid hG1
  have HC1 := Lib.hid hcp1; have HC2 := Lib.hid hcp2; have HZ := Lib.hid hrz
  have hin : ¬ ((i : Int) = (n : Int)) := by omega
  have hw1 : IntKind.i64.wrap ((i : Int) + 1) = (i : Int) + 1 := by rw [IntKind.wrap_i64]; omega
  have hw4 : (0 : Int) ≤ (n : Int) + 1 - (i : Int) := by omega
  have hw2 : (0 : Int) ≤ (i : Int) + 1 := by omega
  have hw3 : ((i : Int) + 1).toNat = i + 1 := by omega
  have hb2 : ¬ (G = i + 1) := by omega
  have hb3 : ¬ (G = i) := by omega
  have hb4 : ¬ (cap = i) := by omega
  have hi1 : (i : Int) < (n : Int) := by omega
  have hi6 : (i : Int) ≤ (n : Int) := by omega
  have hi2 : (i : Int) + 1 ≤ (n : Int) + 1 := by omega
  have hi3 : (cap : Int) < (n : Int) + 1 := by omega
  have hi4 : (i : Int) ≤ (n : Int) + 1 := by omega
  have hi5 : (i : Int) ≤ (cap : Int) := by omega
  have hne1 : vb ≠ w.heap.size := by omega
  have hne2 : g ≠ w.heap.size := by omega
  have HN := Lib.hid (And.intro hne1 hne2)
  clear hfin hlist htk hcur1 hcur2 hs1 hdl hv hb hcp1 hcp2 ht hcl h1c h1 hec hR1 hg1 hv1 hG1 hrz hW1 hRl hROW hG hold hzc hkk hik hi0 hz0 hzs hzb hne1 hne2
  go_enter Try.func54, Try.ntmps54
  go_upto_region 10 with (at_builtin; refine Lib.wpList_append_run _ rfl _ _ _ _ rfl _ _ rfl rfl _ _ (HZ.out _) ?_)
  have HR1 : Hid ((W1.setRow w.heap.size cur1).heap[w.heap.size]? = some (.cells cur1 97 (0, 0))) := Lib.hid (setRow_heap W1 w.heap.size ROW cur1 _ _ HR.out)
  have HB1 : Hid ((W1.setRow w.heap.size cur1).heap[g]? = some (.cells cur 97 (0, 0))) := Lib.hid ((setRow_other W1 w.heap.size g cur1 HN.out.2).trans HB.out)
  go_wp2_with (refine wpList_copy_run _ rfl (.tmp 43) (.tmp 44) 98 98 rfl _ _ rfl rfl (HC1.out _ _ _ HR.out HV.out) ?_)
  go_region_law (refine step_copy_run rfl (.tmp 50) (.tmp 53) 98 98 rfl (.slice (some ⟨w.heap.size, (i + 1) * 2, none⟩) (n - i) (G - (i + 1))) (.slice (some ⟨g, i * 2, none⟩) (n - i) (cap - i)) (by simp [Act.eval, Act.put]) (by simp [Act.eval, Act.put]) (HC2.out _ _ _ _ HR1.out HB1.out) ?_)
  go_wp2_with fail
  go_ret
  refine HF.out _ ?_ (setRow_heap _ w.heap.size cur1 cur2 _ _ HR1.out)
  have k1 := grownBy_new W1 w.heap.size cur1 HGR.out (Nat.le_refl _)
  exact grownBy_new _ w.heap.size cur2 (World.grownBy.trans k1 (grown_dr _ _)) (Nat.le_refl _)
/-- Insert of one element into a row of the call's own. -/
theorem ins_calls (w : World) (base : Nat) (v : Value) (n i : Nat) (cs ec : List Value) (vb : Nat) (hown : w.ownsRow base 97 2 v n cs) (hbase : base ≤ w.heap.size) (hi : i ≤ n) (hn : n ≤ 1000000) (h1c : ∀ u ∈ cs, u.oneCell' = true)
    (hv : w.heap[vb]? = some (.cells ec.toArray 97 (0, 0))) (hec : ec.length = 2) (h1 : ∀ u ∈ ec, u.oneCell' = true) (hne : some vb ≠ v.ownBlock) :
    Calls Try.prog 54 #[v, .int .i64 i, .slice (some ⟨vb, 0, none⟩) 1 1] w (InsP w base v n i cs ec) := by
  by_cases he : i = n
  · subst he
    exact ins_end w base v i cs ec vb hown hbase hv hec h1 hn
  · have hown' := hown
    obtain ⟨hcl, hr⟩ := hown
    rcases hr with ⟨rfl, rfl⟩ | ⟨g, cap, cur, rfl, hg, hh, h2, h3, h4, h5⟩
    · omega
    · have hne' : vb ≠ g := fun e => hne (by rw [e]; rfl)
      by_cases hroom : n + 1 ≤ cap
      · exact ins_room w base g cap n i vb cur cs ec hg hh h4 (by simpa [maxLen] using h3) h5 hcl h1c (by omega) hroom hn hv hec h1 hne'
      · exact ins_grow w base g cap n i vb cur cs ec hbase hh h5 hcl h1c (by omega) h2 (by omega) hn hv hec h1
end Go.Proofs.Ytanhibhcmfmeeaa.Kv
