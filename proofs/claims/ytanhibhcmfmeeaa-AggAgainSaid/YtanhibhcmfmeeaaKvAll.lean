import Derived.Test.YtanhibhcmfmeeaaSlK
import Derived.Test.YtanhibhcmfmeeaaCut
import Derived.Test.YtanhibhcmfmeeaaProg
import Derived.Deep.RegionLaw
import Derived.Lib.Walk
import Derived.BigQuiet
import Derived.Deep.QuietTactic
import Derived.Deep.RegionWith
import Derived.OwnWalk
import Derived.Outline
import Derived.StillTailTactics
import Derived.RegionTactic
import Derived.BigRegion
import Derived.Test.YtanhibhcmfmeeaaWMore
/- The walk of slices.Insert at one element of 2 cells, in a row of the call's own. -/
namespace Go.Proofs.Ytanhibhcmfmeeaa.Kv
open Go.RowKit Go.Proofs.YtanhibhcmfmeeaaW.PrintWords Go.Proofs.Ytanhibhcmfmeeaa.Cut Go.Proofs.Ytanhibhcmfmeeaa.Fr Go.Proofs.Ytanhibhcmfmeeaa.SlK
abbrev zeroE : Value := .agg #[.int .i64 0, .int .i64 0]
theorem infoE : (Try.prog.info? 97).map (fun i => (i.zero, i.size, i.bytes)) = some (some zeroE, 2, 16) := by kernel_rfl
theorem sizeE : (Try.prog.info? 97).map (·.size) = some 2 := by kernel_rfl
/-- What Insert leaves. -/
def InsP (w : World) (base : Nat) (v : Value) (n i : Nat) (cs ec : List Value) (e : Ending) (w' : World) : Prop :=
  ∃ v', e = .returned v' ∧ w'.ownsRow base 97 2 v' (n + 1) (cs.take (i * 2) ++ ec ++ cs.drop (i * 2)) ∧ w.grownBy w' v.ownBlock ∧ (v'.ownBlock = v.ownBlock ∨ ∃ b, v'.ownBlock = some b ∧ w.heap.size ≤ b)
theorem grownBy_set (w : World) (g : Nat) (cs : Array Value) : w.grownBy (w.setRow g cs) (some g) := ⟨rfl, rfl, rfl, by simp [World.setRow], fun k _ hk => setRow_other w g k cs (fun e => hk (by rw [e]))⟩
theorem grownBy_new {w : World} (W : World) (g : Nat) (cs : Array Value) {row : Option Nat} (h : w.grownBy W row) (hg : w.heap.size ≤ g) : w.grownBy (W.setRow g cs) row :=
  ⟨h.os, h.tape, h.output, by simpa [World.setRow] using h.size, fun k hk hr => (setRow_other W g k cs (by omega)).trans (h.block k hk hr)⟩
theorem grown_dr (w : World) (row : Option Nat) : w.grownBy w.drew row := ⟨rfl, rfl, rfl, Nat.le_refl _, fun _ _ _ => rfl⟩
theorem cells_at {w : World} {g n : Nat} {cur : Array Value} {cs : List Value} (hb : w.heap[g]? = some (.cells cur 97 (0, 0))) (ht : cur.toList.take (n * 2) = cs) (a : Nat) (j : Nat) (v : Value) (hj : (cs.drop a)[j]? = some v) : w.cell? ((⟨g, a, none⟩ : Addr).add j) = some v := by
  rw [add_plain', blk_cell hb, ← Array.getElem?_toList]
  rw [List.getElem?_drop, ← ht, List.getElem?_take] at hj
  split at hj
  · exact hj
  · cases hj
where
  add_plain' : ((⟨g, a, none⟩ : Addr).add j) = ⟨g, a + j, none⟩ := by unfold Addr.add; split <;> simp_all
set_option maxHeartbeats 4000000 in
set_option maxRecDepth 100000 in
theorem ins_end (w : World) (base : Nat) (v : Value) (n : Nat) (cs ec : List Value) (vb : Nat) (hown : w.ownsRow base 97 2 v n cs) (hbase : base ≤ w.heap.size) (hv : w.heap[vb]? = some (.cells ec.toArray 97 (0, 0))) (hec : ec.length = 2) (h1 : ∀ u ∈ ec, u.oneCell' = true) (hn : n ≤ 1000000) :
    Calls Try.prog 54 #[v, .int .i64 n, .slice (some ⟨vb, 0, none⟩) 1 1] w (InsP w base v n n cs ec) := by
  obtain ⟨i0, hi, hz⟩ := Option.map_eq_some_iff.1 infoE
  simp only [Prod.mk.injEq] at hz
  obtain ⟨hz0, hz1, hz2⟩ := hz
  obtain ⟨v1, w1, hr, ho, hg, _, hat⟩ := run_append_own_at (P := Try.prog) w base 98 98 97 i0 zeroE 2 16 Try.underlying98 hi hz0 hz1 hz2 rfl (by decide) v n cs hown ⟨vb, 0, none⟩ 1 1 ec (by omega)
    (fun j u hu => by
      have e : ((⟨vb, 0, none⟩ : Addr).add j) = ⟨vb, j, none⟩ := add_plain vb j
      rw [e, blk_cell hv]
      simpa using hu) h1 (by simp only [maxLen]; omega) (by omega) hbase
  have hlen := hown.1
  have hfin : InsP w base v n n cs ec (.returned v1) w1 := by
    refine ⟨v1, rfl, ?_, hg, hat.imp id fun h => ⟨_, h, Nat.le_refl _⟩⟩
    rw [← hlen, List.take_length, List.drop_length, List.append_nil]
    exact ho
  have hcl : ∃ A c, v = .slice A n c ∧ n ≤ c := by
    rcases hown.2 with ⟨rfl, rfl⟩ | ⟨g, cap, cur, rfl, _, _, h2, _⟩
    · exact ⟨none, 0, rfl, Nat.le_refl _⟩
    · exact ⟨_, cap, rfl, h2⟩
  have HF := Lib.hid hfin
  clear hfin ho hg hat hown hv h1 hz0 hz1 hz2 hi hlen hec
  obtain ⟨A, c, rfl, hnc⟩ := hcl
  go_enter Try.func54, Try.ntmps54
  go_wp2_with (at_builtin; refine Lib.wpList_append_run _ rfl _ _ _ _ rfl _ _ rfl rfl _ _ hr ?_)
  all_goals
    go_ret
    first | exact HF.out | (obtain rfl : c = n := (by assumption); exact HF.out)
theorem overlaps_no (w : World) (g vb o n c lb cb : Nat) (cur ec : Array Value) (hb : w.heap[g]? = some (.cells cur 97 (0, 0))) (hv : w.heap[vb]? = some (.cells ec 97 (0, 0))) (hne : vb ≠ g) (hcur : cur.size ≠ 0) :
    (callFunc 66 #[.slice (some ⟨vb, 0, none⟩) n c, .slice (some ⟨g, o, none⟩) lb cb]).run Try.prog w = .ok (.value (.bool false)) w := by
  have hz : ∀ w : World, (Go.sizeOf 97).run Try.prog w = .ok 2 w := fun w => by kernel_rfl
  rw [run_callFunc_extern Try.func66 (by kernel_rfl) (by kernel_rfl) (by kernel_rfl) (e := Extern.SlicesOverlaps.overlaps #[98, 98] #[4]) (by kernel_rfl),
    Lib.run_overlaps_apart w 98 4 97 Try.underlying98 2 hz ⟨vb, 0, none⟩ ⟨g, o, none⟩ n c lb cb hne 97 97 ec.size cur.size (by simp [World.shape?, hv]) (by simp [World.shape?, hb]) hcur (by simp [World.frozen?, hv]) (by simp [World.frozen?, hv])]
  rfl
set_option maxHeartbeats 8000000 in
set_option maxRecDepth 100000 in
theorem ins_room (w : World) (base g cap n i vb : Nat) (cur : Array Value) (cs ec : List Value) (hg : base ≤ g) (hb : w.heap[g]? = some (.cells cur 97 (0, 0))) (hc : cur.size = cap * 2) (hm : cap ≤ 9223372036854775807) (ht : cur.toList.take (n * 2) = cs) (hcl : cs.length = n * 2) (h1c : ∀ u ∈ cs, u.oneCell' = true)
    (hi : i < n) (hroom : n + 1 ≤ cap) (hn : n ≤ 1000000) (hv : w.heap[vb]? = some (.cells ec.toArray 97 (0, 0))) (hec : ec.length = 2) (h1 : ∀ u ∈ ec, u.oneCell' = true) (hne : vb ≠ g) :
    Calls Try.prog 54 #[.slice (some ⟨g, 0, none⟩) n cap, .int .i64 i, .slice (some ⟨vb, 0, none⟩) 1 1] w (InsP w base (.slice (some ⟨g, 0, none⟩) n cap) n i cs ec) := by
  have hdl : (cs.drop (i * 2)).length = (n - i) * 2 := by rw [List.length_drop, hcl]; omega
  have hov := fun lb cb => overlaps_no w g vb ((i + 1) * 2) 1 1 lb cb cur ec.toArray hb hv hne (by omega)
  have hcp1 : ∀ (W : World) ty dc sc, W.heap[g]? = some (.cells cur 97 (0, 0)) → (Builtin.copy_ #[98, 98] ty #[.slice (some ⟨g, (i + 1) * 2, none⟩) (n - i) dc, .slice (some ⟨g, i * 2, none⟩) (n + 1 - i) sc]).run Try.prog W = .ok (goInt (n - i : Nat)) (W.setRow g (cur.toList.take ((i + 1) * 2) ++ cs.drop (i * 2) ++ cur.toList.drop ((i + 1) * 2 + (cs.drop (i * 2)).length)).toArray) := fun W ty dc sc hW =>
    run_copyK W _ _ ty 97 g ((i + 1) * 2) (n - i) dc ⟨g, i * 2, none⟩ (n + 1 - i) sc cur 97 (cs.drop (i * 2)) 2 (n - i) Try.underlying98 sizeE hW (by simp only [Nat.min_def]; split <;> omega) hdl (fun j v hj => cells_at hW ht _ j v hj) (by rw [hdl]; omega) (fun v hv => h1c v (List.mem_of_mem_drop hv))
  obtain ⟨cur1, hcur1⟩ : ∃ cur1 : Array Value, cur1 = (cur.toList.take ((i + 1) * 2) ++ cs.drop (i * 2) ++ cur.toList.drop ((i + 1) * 2 + (cs.drop (i * 2)).length)).toArray := ⟨_, rfl⟩
  have hs1 : cur1.size = cap * 2 := by
    rw [hcur1]
    simp only [List.size_toArray, List.length_append, List.length_take, List.length_drop, Array.length_toList]
    omega
  rw [← hcur1] at hcp1
  have hcp2 : ∀ (W : World) ty dc, W.heap[g]? = some (.cells cur1 97 (0, 0)) → W.heap[vb]? = some (.cells ec.toArray 97 (0, 0)) → (Builtin.copy_ #[98, 98] ty #[.slice (some ⟨g, i * 2, none⟩) (n + 1 - i) dc, .slice (some ⟨vb, 0, none⟩) 1 1]).run Try.prog W = .ok (goInt (1 : Nat)) (W.setRow g (cur1.toList.take (i * 2) ++ ec ++ cur1.toList.drop (i * 2 + ec.length)).toArray) := fun W ty dc hW hWv =>
    run_copyK W _ _ ty 97 g (i * 2) (n + 1 - i) dc ⟨vb, 0, none⟩ 1 1 cur1 97 ec 2 1 Try.underlying98 sizeE hW (by simp only [Nat.min_def]; split <;> omega) (by omega) (fun j u hu => by
      have e : ((⟨vb, 0, none⟩ : Addr).add j) = ⟨vb, j, none⟩ := add_plain vb j
      rw [e, blk_cell hWv]
      simpa using hu) (by rw [hec]; omega) h1
  have hlist := room_list cur.toList ec (cs.drop (i * 2)) (i * 2) 2 (by rw [hdl, Array.length_toList]; omega) hec
  have htk : cur.toList.take (i * 2) = cs.take (i * 2) := by rw [← ht, List.take_take, Nat.min_eq_left (by omega)]
  obtain ⟨cur2, hcur2⟩ : ∃ cur2 : Array Value, cur2 = (cur1.toList.take (i * 2) ++ ec ++ cur1.toList.drop (i * 2 + ec.length)).toArray := ⟨_, rfl⟩
  rw [← hcur2] at hcp2
  have hfin : ∀ W : World, w.grownBy W (some g) → W.heap[g]? = some (.cells cur2 97 (0, 0)) → InsP w base (.slice (some ⟨g, 0, none⟩) n cap) n i cs ec (.returned (.slice (some ⟨g, 0, none⟩) (n + 1) cap)) W := fun W hG hW => by
    refine ⟨_, rfl, ⟨?_, .inr ⟨g, cap, cur2, rfl, hg, hW, hroom, by simpa [maxLen] using hm, ?_, ?_⟩⟩, hG, .inl rfl⟩
    · simp only [List.length_append, List.length_take, hdl, hec, hcl]; omega
    · rw [hcur2]
      simp only [List.size_toArray, List.length_append, List.length_take, List.length_drop, Array.length_toList, hs1, hec]
      omega
    · rw [← htk, ← hlist]
      have e : (n + 1) * 2 = i * 2 + 2 + (cs.drop (i * 2)).length := by rw [hdl]; omega
      rw [e, hcur2, hcur1]
      have e2 : (i + 1) * 2 = i * 2 + 2 := by omega
      rw [e2]
  have HF := Lib.hid hfin
  have hin : ¬ ((i : Int) = (n : Int)) := by omega
  have hw1 : IntKind.i64.wrap ((i : Int) + 1) = (i : Int) + 1 := by rw [IntKind.wrap_i64]; omega
  have hw2 : (0 : Int) ≤ (i : Int) + 1 := by omega
  have hw3 : ((i : Int) + 1).toNat = i + 1 := by omega
  have hb2 : ¬ (cap = i + 1) := by omega
  have hb3 : ¬ (cap = i) := by omega
  have hb4 : ¬ (cap = n + 1) ∨ cap = n + 1 := by omega
  have hi1 : (i : Int) < (n : Int) := by omega
  have hi2 : (i : Int) + 1 ≤ (n : Int) + 1 := by omega
  have hi3 : (n : Int) + 1 ≤ (cap : Int) := by omega
  have hi4 : (i : Int) ≤ (n : Int) + 1 := by omega
  have HV := Lib.hid hv; have HB := Lib.hid hb
  have HC1 := Lib.hid hcp1; have HC2 := Lib.hid hcp2
  clear hfin hlist htk hcur1 hcur2 hs1 hdl hv hb hcp1 hcp2 ht hcl h1c h1 hec hc hb4
  go_enter Try.func54, Try.ntmps54
  go_wp2_with (simp only [hov])
  have HB1 : Hid ((w.drew.setRow g cur1).heap[g]? = some (.cells cur1 97 (0, 0))) := Lib.hid (setRow_heap w.drew g cur cur1 _ _ HB.out)
  have HV1 : Hid ((w.drew.setRow g cur1).heap[vb]? = some (.cells ec.toArray 97 (0, 0))) := Lib.hid ((setRow_other w.drew g vb cur1 hne).trans HV.out)
  go_region_law (refine step_copy_run rfl (.tmp 73) (.tmp 76) 98 98 rfl (.slice (some ⟨g, (i + 1) * 2, none⟩) (n - i) (cap - (i + 1))) (.slice (some ⟨g, i * 2, none⟩) (n + 1 - i) (cap - i)) (by simp [Act.eval, Act.put]) (by simp [Act.eval, Act.put]) (HC1.out _ _ _ _ HB.out) ?_)
  go_wp2_with (refine wpList_copy_run _ rfl (.tmp 80) (.tmp 81) 98 98 rfl _ _ rfl rfl (HC2.out _ _ _ HB1.out HV1.out) ?_)
  go_ret
  refine HF.out _ ?_ (setRow_heap _ g cur1 cur2 _ _ HB1.out)
  exact World.grownBy.trans (grown_dr w (some g)) (World.grownBy.trans (grownBy_set w.drew g cur1) (grownBy_set _ g cur2))
set_option maxHeartbeats 8000000 in
set_option maxRecDepth 100000 in
theorem ins_grow (w : World) (base g cap n i vb : Nat) (cur : Array Value) (cs ec : List Value) (hbase : base ≤ w.heap.size) (hb : w.heap[g]? = some (.cells cur 97 (0, 0))) (ht : cur.toList.take (n * 2) = cs) (hcl : cs.length = n * 2) (h1c : ∀ u ∈ cs, u.oneCell' = true)
    (hi : i < n) (hnc : n ≤ cap) (hroom : cap < n + 1) (hn : n ≤ 1000000) (hv : w.heap[vb]? = some (.cells ec.toArray 97 (0, 0))) (hec : ec.length = 2) (h1 : ∀ u ∈ ec, u.oneCell' = true) :
    Calls Try.prog 54 #[.slice (some ⟨g, 0, none⟩) n cap, .int .i64 i, .slice (some ⟨vb, 0, none⟩) 1 1] w (InsP w base (.slice (some ⟨g, 0, none⟩) n cap) n i cs ec) := by
  obtain ⟨i0, hi0, hz⟩ := Option.map_eq_some_iff.1 infoE
  simp only [Prod.mk.injEq] at hz
  obtain ⟨hz0, hzs, hzb⟩ := hz
  have hgw : g < w.heap.size := (Array.getElem?_eq_some_iff.1 hb).1
  have hvw : vb < w.heap.size := (Array.getElem?_eq_some_iff.1 hv).1
  have hdl : (cs.drop (i * 2)).length = (n - i) * 2 := by rw [List.length_drop, hcl]; omega
  have hkk : (n : Int) + 1 - (i : Int) = ((n + 1 - i : Nat) : Int) := by omega
  have hik : i + (n + 1 - i) = n + 1 := by omega
  have hold : (Builtin.firstCells i0.size i (.slice (some ⟨g, 0, none⟩) i cap)).run Try.prog w.drew = .ok (cs.take (i * 2)).toArray w.drew := by
    rw [hzs]
    exact run_firstCells_some w.drew 2 i ⟨g, 0, none⟩ i cap (cs.take (i * 2)) (by rw [List.length_take]; omega) (fun j v hj => by
      rw [List.getElem?_take] at hj
      split at hj
      · exact cells_at (w := w.drew) hb ht 0 j v (by rw [List.drop_zero]; exact hj)
      · cases hj)
  obtain ⟨G, hG⟩ : ∃ G, G = grownCap w (n + 1) cap 97 := ⟨_, rfl⟩
  obtain ⟨ROW, hROW⟩ : ∃ ROW : Array Value, ROW = (cs.take (i * 2)).toArray ++ Builtin.zeroCells zeroE.cells (n + 1 - i) ++ Builtin.zeroCells zeroE.cells (G - (n + 1)) := ⟨_, rfl⟩
  have hGn : n + 1 ≤ G := by rw [hG]; exact grownCap_ge w _ _ _
  have hG63 : G ≤ 9223372036854775807 := by
    have := grownCap_le_maxLen w (n + 1) cap 97 (by unfold maxLen; omega)
    rw [← hG] at this
    unfold maxLen at this
    omega
  have hzc : zeroE.cells.size = 2 := rfl
  have hRl : ROW.size = G * 2 := by
    rw [hROW]
    simp only [Array.size_append, List.size_toArray, List.length_take, size_zeroCells, hzc, hcl]
    omega
  have hrz : ∀ ty, (Builtin.append_ #[98, 3] ty #[.slice (some ⟨g, 0, none⟩) i cap, .int .i64 ((n : Int) + 1 - (i : Int))]).run Try.prog w = .ok (.slice (some ⟨w.heap.size, 0, none⟩) (n + 1) G) (w.drew.alloc (.cells ROW 97)) := fun ty => by
    have h := Lib.run_append_grow_zeros w 98 3 ty 97 i0 _ .i64 .i64 Try.underlying98 Try.underlying3 hi0 hz0 (some ⟨g, 0, none⟩) i cap (cs.take (i * 2)) hold (n + 1 - i) (by omega) (by rw [hzs]; decide) (by omega) (by omega) (by rw [hzb]; omega) (by rw [hzb, hik]; exact growslice_fits hroom (by omega))
    rw [hik, ← hG, ← hROW] at h
    rw [hkk]
    exact h
  obtain ⟨W1, hW1⟩ : ∃ W1, W1 = w.drew.alloc (.cells ROW 97) := ⟨_, rfl⟩
  rw [← hW1] at hrz
  have hR1 : W1.heap[w.heap.size]? = some (.cells ROW 97 (0, 0)) := by rw [hW1]; exact heap_alloc_new w.drew _
  have hg1 : W1.heap[g]? = some (.cells cur 97 (0, 0)) := by rw [hW1]; exact (heap_alloc_old w.drew _ hgw).trans hb
  have hv1 : W1.heap[vb]? = some (.cells ec.toArray 97 (0, 0)) := by rw [hW1]; exact (heap_alloc_old w.drew _ hvw).trans hv
  have hG1 : w.grownBy W1 (some g) := by rw [hW1]; exact World.grownBy.trans (grown_dr w (some g)) (World.grownBy_alloc _ _ _)
  have hcp1 : ∀ (W : World) ty dc, W.heap[w.heap.size]? = some (.cells ROW 97 (0, 0)) → W.heap[vb]? = some (.cells ec.toArray 97 (0, 0)) → (Builtin.copy_ #[98, 98] ty #[.slice (some ⟨w.heap.size, i * 2, none⟩) (n + 1 - i) dc, .slice (some ⟨vb, 0, none⟩) 1 1]).run Try.prog W = .ok (goInt (1 : Nat)) (W.setRow w.heap.size (ROW.toList.take (i * 2) ++ ec ++ ROW.toList.drop (i * 2 + ec.length)).toArray) := fun W ty dc hW hWv =>
    run_copyK W _ _ ty 97 w.heap.size (i * 2) (n + 1 - i) dc ⟨vb, 0, none⟩ 1 1 ROW 97 ec 2 1 Try.underlying98 sizeE hW (by simp only [Nat.min_def]; split <;> omega) (by omega) (fun j u hu => by
      have e : ((⟨vb, 0, none⟩ : Addr).add j) = ⟨vb, j, none⟩ := add_plain vb j
      rw [e, blk_cell hWv]
      simpa using hu) (by rw [hec, hRl]; omega) h1
  obtain ⟨cur1, hcur1⟩ : ∃ cur1 : Array Value, cur1 = (ROW.toList.take (i * 2) ++ ec ++ ROW.toList.drop (i * 2 + ec.length)).toArray := ⟨_, rfl⟩
  have hs1 : cur1.size = G * 2 := by
    rw [hcur1]
    simp only [List.size_toArray, List.length_append, List.length_take, List.length_drop, Array.length_toList, hec]
    omega
  rw [← hcur1] at hcp1
  have hcp2 : ∀ (W : World) ty dc sc, W.heap[w.heap.size]? = some (.cells cur1 97 (0, 0)) → W.heap[g]? = some (.cells cur 97 (0, 0)) → (Builtin.copy_ #[98, 98] ty #[.slice (some ⟨w.heap.size, (i + 1) * 2, none⟩) (n - i) dc, .slice (some ⟨g, i * 2, none⟩) (n - i) sc]).run Try.prog W = .ok (goInt (n - i : Nat)) (W.setRow w.heap.size (cur1.toList.take ((i + 1) * 2) ++ cs.drop (i * 2) ++ cur1.toList.drop ((i + 1) * 2 + (cs.drop (i * 2)).length)).toArray) := fun W ty dc sc hW hWg =>
    run_copyK W _ _ ty 97 w.heap.size ((i + 1) * 2) (n - i) dc ⟨g, i * 2, none⟩ (n - i) sc cur1 97 (cs.drop (i * 2)) 2 (n - i) Try.underlying98 sizeE hW (by simp only [Nat.min_def]; split <;> omega) hdl (fun j v hj => cells_at hWg ht _ j v hj) (by rw [hdl]; omega) (fun v hv => h1c v (List.mem_of_mem_drop hv))
  obtain ⟨cur2, hcur2⟩ : ∃ cur2 : Array Value, cur2 = (cur1.toList.take ((i + 1) * 2) ++ cs.drop (i * 2) ++ cur1.toList.drop ((i + 1) * 2 + (cs.drop (i * 2)).length)).toArray := ⟨_, rfl⟩
  rw [← hcur2] at hcp2
  have hlist := grow_list ROW.toList ec (cs.drop (i * 2)) (i * 2) 2 (by rw [hdl, Array.length_toList]; omega) hec
  have htk : ROW.toList.take (i * 2) = cs.take (i * 2) := by
    rw [hROW, Array.toList_append, Array.toList_append, List.append_assoc]
    exact List.take_left' (by rw [List.length_take, hcl]; omega)
  have hfin : ∀ W : World, w.grownBy W (some g) → W.heap[w.heap.size]? = some (.cells cur2 97 (0, 0)) → InsP w base (.slice (some ⟨g, 0, none⟩) n cap) n i cs ec (.returned (.slice (some ⟨w.heap.size, 0, none⟩) (n + 1) G)) W := fun W hGr hW => by
    refine ⟨_, rfl, ⟨?_, .inr ⟨w.heap.size, G, cur2, rfl, hbase, hW, hGn, by simpa [maxLen] using hG63, ?_, ?_⟩⟩, hGr, .inr ⟨_, rfl, Nat.le_refl _⟩⟩
    · simp only [List.length_append, List.length_take, hdl, hec, hcl]; omega
    · rw [hcur2]
      simp only [List.size_toArray, List.length_append, List.length_take, List.length_drop, Array.length_toList, hs1]
      omega
    · rw [← htk, ← hlist]
      have e : (n + 1) * 2 = i * 2 + 2 + (cs.drop (i * 2)).length := by rw [hdl]; omega
      rw [e, hcur2, hcur1]
      have e2 : (i + 1) * 2 = i * 2 + 2 := by omega
      rw [e2]
  have HF := Lib.hid hfin
  have HR := Lib.hid hR1; have HV := Lib.hid hv1; have HB := Lib.hid hg1; have HGR := Lib.hid hG1
  have HC1 := Lib.hid hcp1; have HC2 := Lib.hid hcp2; have HZ := Lib.hid hrz
  have hin : ¬ ((i : Int) = (n : Int)) := by omega
  have hw1 : IntKind.i64.wrap ((i : Int) + 1) = (i : Int) + 1 := by rw [IntKind.wrap_i64]; omega
  have hw4 : (0 : Int) ≤ (n : Int) + 1 - (i : Int) := by omega
  have hw2 : (0 : Int) ≤ (i : Int) + 1 := by omega
  have hw3 : ((i : Int) + 1).toNat = i + 1 := by omega
  have hb2 : ¬ (G = i + 1) := by omega
  have hb3 : ¬ (G = i) := by omega
  have hb4 : ¬ (cap = i) := by omega
  have hi1 : (i : Int) < (n : Int) := by omega
  have hi6 : (i : Int) ≤ (n : Int) := by omega
  have hi2 : (i : Int) + 1 ≤ (n : Int) + 1 := by omega
  have hi3 : (cap : Int) < (n : Int) + 1 := by omega
  have hi4 : (i : Int) ≤ (n : Int) + 1 := by omega
  have hi5 : (i : Int) ≤ (cap : Int) := by omega
  have hne1 : vb ≠ w.heap.size := by omega
  have hne2 : g ≠ w.heap.size := by omega
  have HN := Lib.hid (And.intro hne1 hne2)
  clear hfin hlist htk hcur1 hcur2 hs1 hdl hv hb hcp1 hcp2 ht hcl h1c h1 hec hR1 hg1 hv1 hG1 hrz hW1 hRl hROW hG hold hzc hkk hik hi0 hz0 hzs hzb hne1 hne2
  go_enter Try.func54, Try.ntmps54
  go_upto_region 10 with (at_builtin; refine Lib.wpList_append_run _ rfl _ _ _ _ rfl _ _ rfl rfl _ _ (HZ.out _) ?_)
  have HR1 : Hid ((W1.setRow w.heap.size cur1).heap[w.heap.size]? = some (.cells cur1 97 (0, 0))) := Lib.hid (setRow_heap W1 w.heap.size ROW cur1 _ _ HR.out)
  have HB1 : Hid ((W1.setRow w.heap.size cur1).heap[g]? = some (.cells cur 97 (0, 0))) := Lib.hid ((setRow_other W1 w.heap.size g cur1 HN.out.2).trans HB.out)
  go_wp2_with (refine wpList_copy_run _ rfl (.tmp 43) (.tmp 44) 98 98 rfl _ _ rfl rfl (HC1.out _ _ _ HR.out HV.out) ?_)
  go_region_law (refine step_copy_run rfl (.tmp 50) (.tmp 53) 98 98 rfl (.slice (some ⟨w.heap.size, (i + 1) * 2, none⟩) (n - i) (G - (i + 1))) (.slice (some ⟨g, i * 2, none⟩) (n - i) (cap - i)) (by simp [Act.eval, Act.put]) (by simp [Act.eval, Act.put]) (HC2.out _ _ _ _ HR1.out HB1.out) ?_)
  go_wp2_with fail
  go_ret
  refine HF.out _ ?_ (setRow_heap _ w.heap.size cur1 cur2 _ _ HR1.out)
  have k1 := grownBy_new W1 w.heap.size cur1 HGR.out (Nat.le_refl _)
  exact grownBy_new _ w.heap.size cur2 (World.grownBy.trans k1 (grown_dr _ _)) (Nat.le_refl _)
/-- Insert of one element into a row of the call's own. -/
theorem ins_calls (w : World) (base : Nat) (v : Value) (n i : Nat) (cs ec : List Value) (vb : Nat) (hown : w.ownsRow base 97 2 v n cs) (hbase : base ≤ w.heap.size) (hi : i ≤ n) (hn : n ≤ 1000000) (h1c : ∀ u ∈ cs, u.oneCell' = true)
    (hv : w.heap[vb]? = some (.cells ec.toArray 97 (0, 0))) (hec : ec.length = 2) (h1 : ∀ u ∈ ec, u.oneCell' = true) (hne : some vb ≠ v.ownBlock) :
    Calls Try.prog 54 #[v, .int .i64 i, .slice (some ⟨vb, 0, none⟩) 1 1] w (InsP w base v n i cs ec) := by
  by_cases he : i = n
  · subst he
    exact ins_end w base v i cs ec vb hown hbase hv hec h1 hn
  · have hown' := hown
    obtain ⟨hcl, hr⟩ := hown
    rcases hr with ⟨rfl, rfl⟩ | ⟨g, cap, cur, rfl, hg, hh, h2, h3, h4, h5⟩
    · omega
    · have hne' : vb ≠ g := fun e => hne (by rw [e]; rfl)
      by_cases hroom : n + 1 ≤ cap
      · exact ins_room w base g cap n i vb cur cs ec hg hh h4 (by simpa [maxLen] using h3) h5 hcl h1c (by omega) hroom hn hv hec h1 hne'
      · exact ins_grow w base g cap n i vb cur cs ec hbase hh h5 hcl h1c (by omega) h2 (by omega) hn hv hec h1
end Go.Proofs.Ytanhibhcmfmeeaa.Kv
/- A row of pairs by rising keys; where a key is: find. -/
namespace Go.Proofs.Ytanhibhcmfmeeaa.Kv
open Go.RowKit Go.Proofs.YtanhibhcmfmeeaaW.PrintWords Go.Proofs.Ytanhibhcmfmeeaa.Cut Go.Proofs.Ytanhibhcmfmeeaa.Fr Go.Proofs.Ytanhibhcmfmeeaa.SlK
abbrev P2 := Int × Int
abbrev L2 := List P2
def enc2 (p : P2) : List Value := [.int .i64 p.1, .int .i64 p.2]
theorem enc2_len (l : L2) : (l.flatMap enc2).length = l.length * 2 := by
  induction l with
  | nil => rfl
  | cons x r ih => rw [List.flatMap_cons, List.length_append, ih]; simp [enc2]; omega
theorem enc2_get : ∀ (l : L2) (i : Nat) (p : P2), l[i]? = some p → (l.flatMap enc2)[i * 2]? = some (.int .i64 p.1) ∧ (l.flatMap enc2)[i * 2 + 1]? = some (.int .i64 p.2)
  | [], i, p, h => by simp at h
  | x :: r, 0, p, h => by
    obtain rfl : x = p := by simpa using h
    exact ⟨rfl, rfl⟩
  | x :: r, i + 1, p, h => by
    have h' := enc2_get r i p (by simpa using h)
    rw [List.flatMap_cons]
    constructor
    · rw [List.getElem?_append_right (by simp [enc2]; omega)]
      have : (i + 1) * 2 - (enc2 x).length = i * 2 := by simp [enc2]; omega
      rw [this]; exact h'.1
    · rw [List.getElem?_append_right (by simp [enc2]; omega)]
      have : (i + 1) * 2 + 1 - (enc2 x).length = i * 2 + 1 := by simp [enc2]; omega
      rw [this]; exact h'.2
theorem enc2_one (l : L2) : ∀ u ∈ l.flatMap enc2, u.oneCell' = true := by
  intro u hu
  obtain ⟨x, _, hx⟩ := List.mem_flatMap.1 hu
  simp [enc2] at hx
  rcases hx with rfl | rfl <;> rfl
theorem enc2_take (l : L2) (i : Nat) : (l.flatMap enc2).take (i * 2) = (l.take i).flatMap enc2 := by
  induction l generalizing i with
  | nil => simp
  | cons x r ih =>
    cases i with
    | zero => simp
    | succ i =>
      rw [List.take_succ_cons, List.flatMap_cons, List.flatMap_cons, ← ih i]
      have : (i + 1) * 2 = (enc2 x).length + i * 2 := by simp [enc2]; omega
      rw [this, List.take_length_add_append]
theorem enc2_drop (l : L2) (i : Nat) : (l.flatMap enc2).drop (i * 2) = (l.drop i).flatMap enc2 := by
  induction l generalizing i with
  | nil => simp
  | cons x r ih =>
    cases i with
    | zero => simp
    | succ i =>
      rw [List.drop_succ_cons, List.flatMap_cons, ← ih i]
      have : (i + 1) * 2 = (enc2 x).length + i * 2 := by simp [enc2]; omega
      rw [this, List.drop_length_add_append]
/-! plain -/
def Sorted (l : L2) : Prop := l.Pairwise fun a b => a.1 < b.1
def idx (key : Int) (l : L2) : Nat := (l.takeWhile fun p => decide (p.1 < key)).length
def look (l : L2) (key : Int) : Option Int := (l.find? fun p => p.1 == key).map (·.2)
theorem idx_le (key : Int) (l : L2) : idx key l ≤ l.length := by
  unfold idx
  have := List.takeWhile_prefix (l := l) (fun p : P2 => decide (p.1 < key))
  exact this.length_le
/-- The place is told by what stands on its sides. -/
theorem idx_uniq {key : Int} : ∀ {l : L2} {i : Nat}, i ≤ l.length → (∀ j p, j < i → l[j]? = some p → p.1 < key) → (∀ p, l[i]? = some p → key ≤ p.1) → idx key l = i
  | [], i, hi, _, _ => by simp at hi; subst hi; rfl
  | x :: r, 0, _, _, h2 => by
    have := h2 x rfl
    unfold idx
    rw [List.takeWhile_cons_of_neg (by simp; omega)]
    rfl
  | x :: r, i + 1, hi, h1, h2 => by
    have h0 := h1 0 x (by omega) rfl
    have ih := idx_uniq (key := key) (l := r) (i := i) (by simpa using hi) (fun j p hj hp => h1 (j + 1) p (by omega) (by simpa using hp)) (fun p hp => h2 p (by simpa using hp))
    unfold idx at ih ⊢
    rw [List.takeWhile_cons_of_pos (by simpa using h0), List.length_cons, ih]
theorem look_idx {key : Int} : ∀ {l : L2}, Sorted l → look l key = (l[idx key l]?).bind fun p => if p.1 = key then some p.2 else none
  | [], _ => rfl
  | x :: r, hs => by
    obtain ⟨h1, h2⟩ := List.pairwise_cons.1 hs
    have ih := look_idx (key := key) h2
    unfold look idx at ih ⊢
    by_cases hx : x.1 < key
    · rw [List.takeWhile_cons_of_pos (by simpa using hx), List.length_cons, List.getElem?_cons_succ, List.find?_cons_of_neg (by simp; omega)]
      exact ih
    · rw [List.takeWhile_cons_of_neg (by simpa using hx), List.length_nil, List.getElem?_cons_zero, Option.bind_some]
      by_cases e : x.1 = key
      · rw [List.find?_cons_of_pos (by simpa using e), if_pos e]; rfl
      · rw [if_neg e, List.find?_cons_of_neg (by simpa using e)]
        have : r.find? (fun p => p.1 == key) = none := List.find?_eq_none.2 fun y hy => by
          have := h1 y hy
          simp; omega
        rw [this]; rfl
def cmpI (a b : Int) : Int := if a < b then -1 else if b < a then 1 else 0
set_option maxHeartbeats 1000000 in
theorem clo_calls (k v key : Int) (w : World) : Calls Try.prog 61 #[.agg #[.int .i64 k, .int .i64 v], .int .i64 key] w fun e w' => e = .returned (.int .i64 (cmpI k key)) ∧ Below w.heap.size w w' := by
  unfold cmpI
  rcases Int.lt_trichotomy k key with h | h | h
  · rw [if_pos h]
    go_enter Try.func61, Try.ntmps61
    go_wp2
    go_ret
    exact ⟨rfl, below_alloc (Below.refl _ _) _⟩
  · subst h
    rw [if_neg (Int.lt_irrefl k), if_neg (Int.lt_irrefl k)]
    go_enter Try.func61, Try.ntmps61
    go_wp2
    go_ret
    exact ⟨rfl, below_alloc (Below.refl _ _) _⟩
  · have h1 : ¬ k < key := by omega
    rw [if_neg h1, if_pos h]
    go_enter Try.func61, Try.ntmps61
    go_wp2
    go_ret
    exact ⟨rfl, below_alloc (Below.refl _ _) _⟩
end Go.Proofs.Ytanhibhcmfmeeaa.Kv
/- The walk of slices.BinarySearchFunc over pairs. -/
namespace Go.Proofs.Ytanhibhcmfmeeaa.Kv
open Go.RowKit Go.Proofs.YtanhibhcmfmeeaaW.PrintWords Go.Proofs.Ytanhibhcmfmeeaa.Cut Go.Proofs.Ytanhibhcmfmeeaa.Fr Go.Proofs.Ytanhibhcmfmeeaa.SlK
/-- A row of pairs, as it is read; wherever memory is made behind it. -/
theorem row_cells {w : World} {base : Nat} {v : Value} {l : L2} (h : w.ownsRow base 97 2 v l.length (l.flatMap enc2)) : ∃ A c, v = .slice A l.length c ∧ l.length ≤ c ∧ ∀ i p, l[i]? = some p → ∃ g, A = some ⟨g, 0, none⟩ ∧ ∀ W, Below w.heap.size w W → W.cell? ⟨g, i * 2, none⟩ = some (.int .i64 p.1) ∧ W.cell? ⟨g, i * 2 + 1, none⟩ = some (.int .i64 p.2) := by
  rcases h.2 with ⟨rfl, h0⟩ | ⟨g, cap, cur, rfl, hg, hh, h1, h2, h3, h4⟩
  · refine ⟨none, 0, by rw [h0], by omega, fun i p hp => ?_⟩
    obtain rfl := List.eq_nil_of_length_eq_zero h0
    simp at hp
  · refine ⟨_, cap, rfl, h1, fun i p hp => ⟨g, rfl, fun W hW => ?_⟩⟩
    have hW' := (hW.block g (Array.getElem?_eq_some_iff.1 hh).1).trans hh
    obtain ⟨e1, e2⟩ := enc2_get l i p hp
    have hi := (List.getElem?_eq_some_iff.1 hp).1
    rw [← h4] at e1 e2
    rw [List.getElem?_take_of_lt (by omega)] at e1 e2
    exact ⟨by rw [blk_cell hW', ← Array.getElem?_toList]; exact e1, by rw [blk_cell hW', ← Array.getElem?_toList]; exact e2⟩
theorem pair_at {l : L2} (hs : Sorted l) {i j : Nat} (h : i < j) {x y : P2} (hx : l[i]? = some x) (hy : l[j]? = some y) : x.1 < y.1 := by
  have hi := (List.getElem?_eq_some_iff.1 hx).1
  have hj := (List.getElem?_eq_some_iff.1 hy).1
  have := List.pairwise_iff_getElem.1 hs i j hi hj h
  rw [List.getElem?_eq_getElem hi] at hx
  rw [List.getElem?_eq_getElem hj] at hy
  rw [← Option.some.inj hx, ← Option.some.inj hy]
  exact this
theorem pair_lt {l : L2} (hs : Sorted l) {i j : Nat} (h : i < j) {x y : P2} {key : Int} (hx : l[i]? = some x) (hy : l[j]? = some y) (hk : y.1 < key) : x.1 < key := by
  have := pair_at hs h hx hy
  omega
set_option maxHeartbeats 4000000 in
set_option maxRecDepth 100000 in
theorem bs_calls {w : World} {base : Nat} {v : Value} {l : L2} (h : w.ownsRow base 97 2 v l.length (l.flatMap enc2)) (hs : Sorted l) (hl : l.length ≤ 1000000) (key : Int) :
    Calls Try.prog 60 #[v, .int .i64 key, .func (.func 61) #[] #[]] w fun e w' => e = .returned (.tuple #[.int .i64 (idx key l), .bool (look l key).isSome]) ∧ Below w.heap.size w w' := by
  obtain ⟨A, c, rfl, hc, hcl⟩ := row_cells h
  have HC := Lib.hid hcl
  have HS := Lib.hid hs
  obtain ⟨r1, hr1⟩ : ∃ r : Nat, r = idx key l := ⟨_, rfl⟩
  obtain ⟨r2, hr2⟩ : ∃ r : Bool, r = (look l key).isSome := ⟨_, rfl⟩
  rw [← hr1, ← hr2]
  have HR := Lib.hid (And.intro hr1 hr2)
  clear hr1 hr2
  obtain ⟨n, hn⟩ : ∃ n, n = l.length := ⟨_, rfl⟩
  rw [← hn] at hc hl ⊢
  have HN := Lib.hid hn
  clear hcl hs hn h
  go_enter Try.func60, Try.ntmps60
  go_wp2_with fail
  go_loopw [9, 10] (fun i j wr => ∃ (a b : Nat), a ≤ b ∧ b ≤ n ∧ i = .int .i64 a ∧ j = .int .i64 b ∧ (∀ k p, k < a → l[k]? = some p → p.1 < key) ∧ (∀ k p, b ≤ k → l[k]? = some p → key ≤ p.1) ∧ Below w.heap.size w wr) (fun i j _ => (intOf j).toNat - (intOf i).toNat)
  case atStart => exact ⟨0, n, Nat.zero_le _, Nat.le_refl _, rfl, rfl, fun k p hk => by omega, fun k p hk hp => by
    have := (List.getElem?_eq_some_iff.1 hp).1
    rw [← HN.out] at this; omega, Below.refl _ _⟩
  case round =>
    obtain ⟨a, b, hab, hbn, rfl, rfl, hlo, hhi, hB⟩ := hrel
    have HLO := Lib.hid hlo; have HHI := Lib.hid hhi; have HB := Lib.hid hB
    clear hlo hhi hB
    by_cases hlt : a < b
    · obtain ⟨m, hm⟩ : ∃ m : Nat, m = (a + b) / 2 := ⟨_, rfl⟩
      have m1 : ((a : Int) + (b : Int)) / 2 = (m : Int) := by omega
      have m2 : m < n := by omega
      have m3 : a ≤ m := by omega
      have m4 : m < b := by omega
      have m5 : (m : Int) < (n : Int) := by omega
      have m6 : ((m : Int)).toNat = m := by omega
      have hml : m < l.length := by rw [← HN.out]; exact m2
      obtain ⟨g, rfl, hcell⟩ := HC.out m l[m] (List.getElem?_eq_getElem hml)
      obtain ⟨p1, p2⟩ := hcell wr HB.out
      have HP := Lib.hid (show l[m]? = some l[m] from List.getElem?_eq_getElem hml)
      generalize l[m] = x at p1 p2 HP
      have hcl := clo_calls x.1 x.2 key wr
      have HM := Lib.hid hm
      clear hcell hm HC
      by_cases hx : x.1 < key
      · have e : cmpI x.1 key = -1 := if_pos hx
        rw [e] at hcl
        go_wp2_with ((with_reducible refine hcl.mono ?_); rintro e w1 ⟨rfl, hB1⟩)
        have hB2 := below_then HB.out HB.out.size hB1
        go_roundw
        case rel =>
          refine ⟨m + 1, b, by omega, hbn, by go_num, rfl, fun k p hk hp => ?_, HHI.out, hB2⟩
          have hkm : k < m ∨ k = m := by omega
          rcases hkm with hkm | rfl
          · exact pair_lt HS.out hkm hp HP.out hx
          · rw [HP.out] at hp
            obtain rfl := Option.some.inj hp
            exact hx
        case measure => simp [intOf]; omega
      · have e : cmpI x.1 key = 0 ∨ cmpI x.1 key = 1 := by unfold cmpI; rw [if_neg hx]; split <;> omega
        generalize cmpI x.1 key = y at e hcl
        have hy : ¬ y < 0 := by omega
        clear e
        go_wp2_with ((with_reducible refine hcl.mono ?_); rintro e w1 ⟨rfl, hB1⟩)
        have hB2 := below_then HB.out HB.out.size hB1
        go_roundw
        case rel =>
          refine ⟨a, m, by omega, by omega, rfl, rfl, HLO.out, fun k p hk hp => ?_, hB2⟩
          have hkm : m < k ∨ m = k := by omega
          rcases hkm with hkm | rfl
          · have := pair_at HS.out hkm HP.out hp
            omega
          · rw [HP.out] at hp
            obtain rfl := Option.some.inj hp
            omega
        case measure => simp [intOf]; omega
    · obtain rfl : a = b := by omega
      have hid : idx key l = a := idx_uniq (by rw [← HN.out]; exact hbn) HLO.out fun p hp => HHI.out a p (Nat.le_refl _) hp
      have hlk := look_idx (key := key) HS.out
      rw [hid] at hlk
      obtain rfl : r1 = a := HR.out.1.trans hid
      have hr2 := HR.out.2
      by_cases hlt2 : r1 < n
      · have hal : r1 < l.length := by rw [← HN.out]; exact hlt2
        obtain ⟨g, rfl, hcell⟩ := HC.out r1 l[r1] (List.getElem?_eq_getElem hal)
        obtain ⟨p1, p2⟩ := hcell wr HB.out
        rw [List.getElem?_eq_getElem hal, Option.bind_some] at hlk
        generalize l[r1] = x at p1 p2 hlk
        have hcl := clo_calls x.1 x.2 key wr
        have hlti : (r1 : Int) < (n : Int) := by omega
        have hB := HB.out
        by_cases hx : x.1 = key
        · have e : cmpI x.1 key = 0 := by unfold cmpI; rw [if_neg (by omega), if_neg (by omega)]
          rw [if_pos hx] at hlk
          rw [hlk] at hr2
          subst hr2
          rw [e, hx] at hcl
          rw [hx] at p1
          clear hcell HC hlk e hid hx
          go_wp2_with ((with_reducible refine hcl.mono ?_); rintro e w1 ⟨rfl, hB1⟩)
          go_ret2
          exact ⟨rfl, below_then hB hB.size hB1⟩
        · have e : (cmpI x.1 key == 0) = false := by
            unfold cmpI
            rw [beq_eq_false_iff_ne]
            split
            · decide
            · split
              · decide
              · omega
          rw [if_neg hx] at hlk
          rw [hlk] at hr2
          subst hr2
          generalize cmpI x.1 key = y at e hcl
          clear hcell HC hlk hid
          go_wp2_with ((with_reducible refine hcl.mono ?_); rintro e w1 ⟨rfl, hB1⟩)
          go_ret2
          exact ⟨rfl, below_then hB hB.size hB1⟩
      · obtain rfl : r1 = n := by omega
        rw [List.getElem?_eq_none (by rw [← HN.out]; exact Nat.le_refl _), Option.bind_none] at hlk
        rw [hlk] at hr2
        subst hr2
        have hB := HB.out
        clear HC hlk hid
        go_wp2_with fail
        go_ret2
        exact ⟨rfl, hB⟩
end Go.Proofs.Ytanhibhcmfmeeaa.Kv
/- A store of pairs in memory: New, find, Get. -/
namespace Go.Proofs.Ytanhibhcmfmeeaa.Kv
open Go.RowKit Go.Proofs.YtanhibhcmfmeeaaW.PrintWords Go.Proofs.Ytanhibhcmfmeeaa.Cut Go.Proofs.Ytanhibhcmfmeeaa.Fr Go.Proofs.Ytanhibhcmfmeeaa.SlK
/-- A store lies at block s; its row is v. -/
structure Own (w : World) (B s : Nat) (room : Int) (l : L2) (v : Value) : Prop where
  row : w.heap[s]? = some (.cells #[.int .i64 room, v] 100 (0, 0))
  pairs : w.ownsRow B 97 2 v l.length (l.flatMap enc2)
  sorted : Sorted l
  rng : 1 ≤ room ∧ room ≤ 1024
  fits : (l.length : Int) ≤ room
  base : B ≤ s
/-- Its blocks. -/
def F (s : Nat) (v : Value) (k : Nat) : Prop := k = s ∨ some k = v.ownBlock
theorem Own.cells {w : World} {B s : Nat} {room : Int} {l : L2} {v : Value} (h : Own w B s room l v) : w.cell? ⟨s, 0, none⟩ = some (.int .i64 room) ∧ w.cell? ⟨s, 1, none⟩ = some v := ⟨(blk_cell h.row 0).trans rfl, (blk_cell h.row 1).trans rfl⟩
theorem Own.lt {w : World} {B s : Nat} {room : Int} {l : L2} {v : Value} (h : Own w B s room l v) (k : Nat) (hk : F s v k) : B ≤ k ∧ k < w.heap.size := by
  rcases hk with rfl | hk
  · exact ⟨h.base, (Array.getElem?_eq_some_iff.1 h.row).1⟩
  · exact ⟨own_base h.pairs k hk.symm, own_lt h.pairs k hk.symm⟩
theorem Own.ne {w : World} {B s : Nat} {room : Int} {l : L2} {v : Value} (h : Own w B s room l v) : some s ≠ v.ownBlock := by
  intro e
  obtain ⟨cells, hc⟩ := own_typed h.pairs s e.symm
  rw [h.row] at hc
  injection hc with hc
  injection hc with _ hc
  exact absurd hc (by decide)
/-- Its blocks are as they were. -/
theorem Own.kept {w w' : World} {B s : Nat} {room : Int} {l : L2} {v : Value} (h : Own w B s room l v) (hk : ∀ k, F s v k → w'.heap[k]? = w.heap[k]?) : Own w' B s room l v :=
  ⟨(hk s (.inl rfl)).trans h.row, own_move h.pairs fun k e => hk k (.inr e.symm), h.sorted, h.rng, h.fits, h.base⟩
theorem Own.mv {w w' : World} {B s : Nat} {room : Int} {l : L2} {v : Value} (h : Own w B s room l v) {G G' : Nat → Prop} (hm : Mv w w' G G') (hd : ∀ k, F s v k → ¬ G k) : Own w' B s room l v := h.kept fun k hk => hm.keep k (h.lt k hk).2 (hd k hk)
theorem Own.below {w w' : World} {B s : Nat} {room : Int} {l : L2} {v : Value} (h : Own w B s room l v) (hb : Below w.heap.size w w') : Own w' B s room l v := h.kept fun k hk => hb.block k (h.lt k hk).2
set_option maxHeartbeats 1000000 in
theorem new_calls (room : Int) (hr : 1 ≤ room ∧ room ≤ 1024) (B : Nat) (w : World) (hB : B ≤ w.heap.size) :
    Calls Try.prog 31 #[.int .i64 room] w fun e w' => e = .returned (.tuple #[.pointer (some ⟨w.heap.size, 0, none⟩), .int .i64 0]) ∧ Own w' B w.heap.size room [] (.slice none 0 0) ∧ Below w.heap.size w w' := by
  obtain ⟨r1, r2⟩ := hr
  have n1 : ¬ room < 1 := by omega
  have n2 : ¬ 1024 < room := by omega
  have HB := Lib.hid hB
  clear hB
  go_enter Try.func31, Try.ntmps31
  go_wp2
  go_ret2
  exact ⟨rfl, ⟨(Go.MapKept.heap_alloc w _).1, own_nil _ _ _ _, List.Pairwise.nil, ⟨r1, r2⟩, by simp; omega, HB.out⟩, below_alloc (Below.refl _ _) _⟩
set_option maxHeartbeats 1000000 in
theorem find_calls {w : World} {B s : Nat} {room : Int} {l : L2} {v : Value} (h : Own w B s room l v) (key : Int) :
    Calls Try.prog 41 #[.pointer (some ⟨s, 0, none⟩), .int .i64 key] w fun e w' => e = .returned (.tuple #[.int .i64 (idx key l), .bool (look l key).isSome]) ∧ Below w.heap.size w w' := by
  have hb := bs_calls h.pairs h.sorted (by have := h.fits; have := h.rng; omega) key
  obtain ⟨c0, c1⟩ := h.cells
  generalize (idx key l : Int) = i at hb ⊢
  generalize (look l key).isSome = o at hb ⊢
  clear h
  go_enter Try.func41, Try.ntmps41
  go_wp2_with ((with_reducible refine hb.mono ?_); rintro e w1 ⟨rfl, hB1⟩)
  go_ret2
  exact ⟨rfl, hB1⟩
set_option maxHeartbeats 1000000 in
theorem find_nil (key : Int) (w : World) : Calls Try.prog 41 #[.pointer none, .int .i64 key] w fun e w' => e = .returned (.tuple #[.int .i64 0, .bool false]) ∧ w' = w := by
  go_enter Try.func41, Try.ntmps41
  go_wp2
  go_ret2
  exact ⟨rfl, rfl⟩
set_option maxHeartbeats 1000000 in
theorem get_calls {w : World} {B s : Nat} {room : Int} {l : L2} {v : Value} (h : Own w B s room l v) (key : Int) :
    Calls Try.prog 26 #[.pointer (some ⟨s, 0, none⟩), .int .i64 key] w fun e w' => e = .returned (.tuple #[.int .i64 ((look l key).getD 0), .bool (look l key).isSome]) ∧ Below w.heap.size w w' := by
  have hf := find_calls h key
  have hlk := look_idx (key := key) h.sorted
  have HO := Lib.hid h
  have hin := idx_le key l
  cases hl : look l key with
  | none =>
    rw [hl] at hf
    clear h hlk hin
    go_enter Try.func26, Try.ntmps26
    go_wp2_with ((with_reducible refine hf.mono ?_); rintro e w1 ⟨rfl, hB1⟩)
    go_ret2
    exact ⟨rfl, hB1⟩
  | some x =>
    rw [hl] at hf hlk
    obtain ⟨p, hp, hpx⟩ := Option.bind_eq_some_iff.1 hlk.symm
    have hpx : p.2 = x := by
      split at hpx
      · exact Option.some.inj hpx
      · cases hpx
    have hil := (List.getElem?_eq_some_iff.1 hp).1
    have hl24 : l.length ≤ 1024 := by have := h.fits; have := h.rng; omega
    obtain ⟨A, c, hv, hc, hcl⟩ := row_cells h.pairs
    obtain ⟨g, rfl, hcell⟩ := hcl _ p hp
    subst hv
    have HC := Lib.hid hcell
    generalize idx key l = i at hf HC hil
    obtain ⟨n, hn⟩ : ∃ n, n = l.length := ⟨_, rfl⟩
    rw [← hn] at hil hc hl24 HO
    have hii : (i : Int) < (n : Int) := by omega
    clear h hlk hin hcl hcell hp hl hn
    subst hpx
    go_enter Try.func26, Try.ntmps26
    go_wp2_with fail
    refine hf.mono ?_
    rintro e w1 ⟨rfl, hB1⟩
    obtain ⟨c0, c1⟩ := (HO.out.below hB1).cells
    obtain ⟨d0, d1⟩ := HC.out w1 hB1
    have HB := Lib.hid hB1
    clear hB1 hf
    go_wp2_with fail
    go_ret2
    exact ⟨rfl, HB.out⟩
set_option maxHeartbeats 1000000 in
theorem get_nil (key : Int) (w : World) : Calls Try.prog 26 #[.pointer none, .int .i64 key] w fun e w' => e = .returned (.tuple #[.int .i64 0, .bool false]) ∧ w' = w := by
  have hf := find_nil key w
  go_enter Try.func26, Try.ntmps26
  go_wp2_with ((with_reducible refine hf.mono ?_); rintro e w1 ⟨rfl, rfl⟩)
  go_ret2
  exact ⟨rfl, rfl⟩
end Go.Proofs.Ytanhibhcmfmeeaa.Kv
/- A store of pairs: Put. -/
namespace Go.Proofs.Ytanhibhcmfmeeaa.Kv
open Go.RowKit Go.Proofs.YtanhibhcmfmeeaaW.PrintWords Go.Proofs.Ytanhibhcmfmeeaa.Cut Go.Proofs.Ytanhibhcmfmeeaa.Fr Go.Proofs.Ytanhibhcmfmeeaa.SlK
def putL (key val : Int) (l : L2) : L2 := if (look l key).isSome = true then l.set (idx key l) (key, val) else l.take (idx key l) ++ (key, val) :: l.drop (idx key l)
def chgV (key fr to_ val : Int) (d : Bool) : Value := .agg #[.int .i64 key, .int .i64 fr, .int .i64 to_, .int .i64 val, .bool d]
theorem enc2_set : ∀ (l : L2) (i : Nat) (p : P2) (val : Int), l[i]? = some p → (l.flatMap enc2).set (i * 2 + 1) (.int .i64 val) = (l.set i (p.1, val)).flatMap enc2
  | [], i, p, val, h => by simp at h
  | x :: r, 0, p, val, h => by
    obtain rfl : x = p := by simpa using h
    simp [enc2]
  | x :: r, i + 1, p, val, h => by
    have ih := enc2_set r i p val (by simpa using h)
    rw [List.set_cons_succ, List.flatMap_cons, List.flatMap_cons, ← ih]
    have : (i + 1) * 2 + 1 = (enc2 x).length + (i * 2 + 1) := by simp [enc2]; omega
    rw [this, List.set_append_right _ _ (by omega), Nat.add_sub_cancel_left]
theorem look_some {l : L2} {key x : Int} (hs : Sorted l) (h : look l key = some x) : l[idx key l]? = some (key, x) := by
  have h1 := look_idx (key := key) hs
  rw [h] at h1
  obtain ⟨p, hp, hq⟩ := Option.bind_eq_some_iff.1 h1.symm
  split at hq
  · rename_i e
    rw [hp]
    obtain ⟨a, b⟩ := p
    simp only at e
    subst e
    rw [← Option.some.inj hq]
  · cases hq
/-- What stands ahead of the place is lower, what stands behind it higher. -/
theorem idx_lo {key : Int} : ∀ {l : L2} {j : Nat} {p : P2}, j < idx key l → l[j]? = some p → p.1 < key
  | [], j, p, hj, _ => by simp [idx] at hj
  | x :: r, j, p, hj, hp => by
    unfold idx at hj
    by_cases hx : x.1 < key
    · rw [List.takeWhile_cons_of_pos (by simpa using hx), List.length_cons] at hj
      cases j with
      | zero =>
        obtain rfl : x = p := by simpa using hp
        exact hx
      | succ j => exact idx_lo (l := r) (j := j) (by unfold idx; omega) (by simpa using hp)
    · rw [List.takeWhile_cons_of_neg (by simpa using hx)] at hj
      simp at hj
theorem idx_hi {key : Int} : ∀ {l : L2} {p : P2}, l[idx key l]? = some p → ¬ p.1 < key
  | [], p, h => by simp [idx] at h
  | x :: r, p, h => by
    unfold idx at h
    by_cases hx : x.1 < key
    · rw [List.takeWhile_cons_of_pos (by simpa using hx), List.length_cons, List.getElem?_cons_succ] at h
      exact idx_hi h
    · rw [List.takeWhile_cons_of_neg (by simpa using hx)] at h
      obtain rfl : x = p := by simpa using h
      exact hx
theorem idx_parts (key : Int) (l : L2) (hs : Sorted l) : (∀ p ∈ l.take (idx key l), p.1 < key) ∧ (∀ p ∈ l.drop (idx key l), key ≤ p.1) := by
  constructor
  · intro p hp
    obtain ⟨j, hj⟩ := List.getElem?_of_mem hp
    rw [List.getElem?_take] at hj
    split at hj
    · rename_i h; exact idx_lo h hj
    · cases hj
  · intro p hp
    obtain ⟨j, hj⟩ := List.getElem?_of_mem hp
    rw [List.getElem?_drop] at hj
    have hl := (List.getElem?_eq_some_iff.1 hj).1
    have h0 : l[idx key l]? = some l[idx key l] := List.getElem?_eq_getElem (by omega)
    have h1 := idx_hi h0
    rcases Nat.eq_zero_or_pos j with rfl | hj0
    · rw [Nat.add_zero, h0] at hj
      obtain rfl := Option.some.inj hj
      omega
    · have := pair_at hs (i := idx key l) (j := idx key l + j) (by omega) h0 hj
      omega
theorem look_none_iff {l : L2} {key : Int} : look l key = none ↔ ∀ p ∈ l, p.1 ≠ key := by
  unfold look
  rw [Option.map_eq_none_iff, List.find?_eq_none]
  simp
theorem mem_look {l : L2} (hs : Sorted l) {k v : Int} : look l k = some v ↔ (k, v) ∈ l := by
  constructor
  · intro h
    exact List.mem_of_getElem? (look_some hs h)
  · intro h
    cases hl : look l k with
    | none => exact absurd rfl (look_none_iff.1 hl _ h)
    | some x =>
      have h1 := List.mem_of_getElem? (look_some hs hl)
      obtain ⟨i, hi⟩ := List.getElem?_of_mem h
      obtain ⟨j, hj⟩ := List.getElem?_of_mem h1
      rcases Nat.lt_trichotomy i j with e | e | e
      · have := pair_at hs e hi hj; simp at this
      · subst e; rw [hi] at hj; injection hj with hj; injection hj with _ hj; rw [hj]
      · have := pair_at hs e hj hi; simp at this
/-- What is put, written out. -/
theorem put_form (key val : Int) {l : L2} (hs : Sorted l) : ∃ r : L2, putL key val l = l.take (idx key l) ++ (key, val) :: r ∧ (∀ p ∈ r, key < p.1) ∧ (∀ p, p ∈ r ↔ p ∈ l.drop (idx key l) ∧ p.1 ≠ key) ∧ Sorted r ∧ (r.length + (if (look l key).isSome = true then 1 else 0) = (l.drop (idx key l)).length) := by
  obtain ⟨_, hhi⟩ := idx_parts key l hs
  have hsd : Sorted (l.drop (idx key l)) := List.Pairwise.drop hs
  unfold putL
  cases hl : look l key with
  | none =>
    refine ⟨l.drop (idx key l), by simp, fun p hp => ?_, fun p => ⟨fun hp => ⟨hp, ?_⟩, fun hp => hp.1⟩, hsd, by simp⟩
    · have h1 := hhi p hp
      have h2 := look_none_iff.1 hl p (List.mem_of_mem_drop hp)
      omega
    · exact look_none_iff.1 hl p (List.mem_of_mem_drop hp)
  | some x =>
    have hx := look_some hs hl
    have hi := (List.getElem?_eq_some_iff.1 hx).1
    have hd : l.drop (idx key l) = (key, x) :: l.drop (idx key l + 1) := by
      rw [List.drop_eq_getElem_cons hi, (List.getElem?_eq_some_iff.1 hx).2]
    rw [hd] at hsd
    obtain ⟨q1, q2⟩ := List.pairwise_cons.1 hsd
    refine ⟨l.drop (idx key l + 1), ?_, fun p hp => q1 p hp, fun p => ?_, q2, by rw [hd]; simp⟩
    · rw [if_pos (by rfl), List.set_eq_take_append_cons_drop, if_pos hi]
    · rw [hd, List.mem_cons]
      constructor
      · intro hp
        have := q1 p hp
        exact ⟨.inr hp, by simp only at this; omega⟩
      · rintro ⟨rfl | hp, hn⟩
        · exact absurd rfl hn
        · exact hp
theorem sorted_put (key val : Int) {l : L2} (hs : Sorted l) : Sorted (putL key val l) := by
  obtain ⟨r, h1, h2, h3, h4, _⟩ := put_form key val hs
  obtain ⟨hlo, _⟩ := idx_parts key l hs
  rw [h1]
  refine List.pairwise_append.2 ⟨List.Pairwise.take hs, List.pairwise_cons.2 ⟨fun p hp => h2 p hp, h4⟩, fun a ha b hb => ?_⟩
  have := hlo a ha
  rcases List.mem_cons.1 hb with rfl | hb
  · exact this
  · have := h2 b hb; omega
theorem mem_put (key val : Int) {l : L2} (hs : Sorted l) (p : P2) : p ∈ putL key val l ↔ p = (key, val) ∨ p.1 ≠ key ∧ p ∈ l := by
  obtain ⟨r, h1, h2, h3, _, _⟩ := put_form key val hs
  obtain ⟨hlo, _⟩ := idx_parts key l hs
  rw [h1, List.mem_append, List.mem_cons, h3]
  have hsplit : p ∈ l ↔ p ∈ l.take (idx key l) ∨ p ∈ l.drop (idx key l) := by
    rw [← List.mem_append, List.take_append_drop]
  constructor
  · rintro (h | h | h)
    · have := hlo p h
      exact .inr ⟨by omega, hsplit.2 (.inl h)⟩
    · exact .inl h
    · exact .inr ⟨h.2, hsplit.2 (.inr h.1)⟩
  · rintro (h | ⟨h, hp⟩)
    · exact .inr (.inl h)
    · rcases hsplit.1 hp with hp | hp
      · exact .inl hp
      · exact .inr (.inr ⟨hp, h⟩)
theorem len_put (key val : Int) {l : L2} (hs : Sorted l) : (putL key val l).length + (if (look l key).isSome = true then 1 else 0) = l.length + 1 := by
  obtain ⟨r, h1, _, _, _, h5⟩ := put_form key val hs
  have := idx_le key l
  rw [h1, List.length_append, List.length_cons, List.length_take]
  rw [List.length_drop] at h5
  omega
theorem look_put (key val : Int) {l : L2} (hs : Sorted l) (k : Int) : look (putL key val l) k = if k = key then some val else look l k := by
  by_cases e : k = key
  · subst e
    rw [if_pos rfl]
    exact (mem_look (sorted_put k val hs)).2 ((mem_put k val hs _).2 (.inl rfl))
  · rw [if_neg e]
    cases hl : look l k with
    | none =>
      refine look_none_iff.2 fun p hp => ?_
      rcases (mem_put key val hs p).1 hp with rfl | ⟨_, hp⟩
      · exact fun h => e h.symm
      · exact look_none_iff.1 hl p hp
    | some v => exact (mem_look (sorted_put key val hs)).2 ((mem_put key val hs _).2 (.inr ⟨e, (mem_look hs).1 hl⟩))
end Go.Proofs.Ytanhibhcmfmeeaa.Kv
/- A store of pairs: the walk of Put. -/
namespace Go.Proofs.Ytanhibhcmfmeeaa.Kv
open Go.RowKit Go.Proofs.YtanhibhcmfmeeaaW.PrintWords Go.Proofs.YtanhibhcmfmeeaaW.PrintMore Go.Proofs.Ytanhibhcmfmeeaa.Cut Go.Proofs.Ytanhibhcmfmeeaa.Fr Go.Proofs.Ytanhibhcmfmeeaa.SlK
theorem mv_set {w W : World} {F F' : Nat → Prop} (h : Mv w W F F') {p : Addr} (hp : F p.block ∨ w.heap.size ≤ p.block) (u : Value) : Mv w (W.setCell p u) F F' :=
  ⟨h.os, h.tape, h.output, by simpa [World.setCell] using h.size, fun k hk hs => (Below.heap_setCell W p u k (fun e => by subst e; exact hp.elim hs (by omega))).trans (h.keep k hk hs), h.new⟩
theorem mv_drewN {w W : World} {F F' : Nat → Prop} (h : Mv w W F F') (n : Nat) : Mv w (W.drewN n) F F' := ⟨h.os, h.tape, h.output, h.size, h.keep, h.new⟩
theorem mv_drew {w W : World} {F F' : Nat → Prop} (h : Mv w W F F') : Mv w W.drew F F' := ⟨h.os, h.tape, h.output, h.size, h.keep, h.new⟩
theorem mv_alloc {w W : World} {F F' : Nat → Prop} (h : Mv w W F F') (o : Obj) : Mv w (W.alloc o) F F' :=
  ⟨h.os, h.tape, h.output, by have := h.size; simp; omega, fun k hk hs => ((Go.MapKept.heap_alloc W o).2 k (Nat.lt_of_lt_of_le hk h.size)).trans (h.keep k hk hs), h.new⟩
theorem below_set {B g : Nat} {w W : World} (h : Below B w W) (hg : B ≤ g) (j : Nat) (u : Value) : Below B w (W.setCell ⟨g, j, none⟩ u) := h.setCell hg _
abbrev zrow : Obj := .cells #[.int .i64 0, .int .i64 0, .int .i64 0, .int .i64 0, .bool false] 50
set_option maxHeartbeats 2000000 in
theorem put_nil (key val : Int) (w : World) : Calls Try.prog 38 #[.pointer none, .int .i64 key, .int .i64 val] w fun e w' => e = .returned (.tuple #[chgV 0 0 0 0 false, .int .i64 3]) ∧ Below w.heap.size w w' := by
  have hf := find_nil key (w.alloc zrow)
  have hrow : (w.alloc zrow).heap[w.heap.size]? = some zrow := (Go.MapKept.heap_alloc w zrow).1
  unfold chgV
  go_enter Try.func38, Try.ntmps38
  go_wp2_with ((with_reducible refine hf.mono ?_); rintro e w1 ⟨rfl, rfl⟩)
  go_quiet (fail)
  go_wp2_with fail
  refine bodyPost_ret (results_ct rfl _ _ w.heap.size 50 #[.int .i64 0, .int .i64 0, .int .i64 0, .int .i64 0, .bool false] (0, 0) _ rfl ?hp Try.underlying50 rfl (by kernel_rfl)) rfl ?_
  case hp =>
    repeat (with_reducible first | exact hrow | refine blk_drewN ?_ _ | refine blk_drew ?_ | refine blk_put (cs := #[.int .i64 0, .int .i64 0, .int .i64 0, .int .i64 0, .bool false]) ?_ _ _ rfl)
  · refine ⟨rfl, ?_⟩
    repeat (with_reducible first | exact Below.refl _ _ | refine below_set ?_ (Nat.le_refl _) _ _ | refine pw_below_drewN ?_ _ | refine below_alloc ?_ _)
set_option maxHeartbeats 4000000 in
theorem put_full {w : World} {B s : Nat} {room : Int} {l : L2} {v : Value} (h : Own w B s room l v) (key val : Int) (hn : look l key = none) (hf : room ≤ l.length) :
    Calls Try.prog 38 #[.pointer (some ⟨s, 0, none⟩), .int .i64 key, .int .i64 val] w fun e w' => e = .returned (.tuple #[chgV 0 0 0 0 false, .int .i64 3]) ∧ Below w.heap.size w w' := by
  have hfi := find_calls (h.below (below_alloc (Below.refl _ _) zrow)) key
  have hrow : (w.alloc zrow).heap[w.heap.size]? = some zrow := (Go.MapKept.heap_alloc w zrow).1
  rw [hn] at hfi
  have HO := Lib.hid h
  obtain ⟨A, c, rfl, hc, _⟩ := row_cells h.pairs
  generalize (idx key l : Int) = i at hfi
  unfold chgV
  clear h hn
  go_enter Try.func38, Try.ntmps38
  go_wp2_with fail
  refine hfi.mono ?_
  rintro e w1 ⟨rfl, hB⟩
  have hB2 := below_then (below_alloc (Below.refl _ _) zrow) (by simp) hB
  obtain ⟨c0, c1⟩ := (HO.out.below hB2).cells
  have k0 := (hB.block w.heap.size (by simp)).trans hrow
  have hw1 : w.heap.size < w1.heap.size := (Array.getElem?_eq_some_iff.1 k0).1
  have z0 : w1.cell? ⟨w.heap.size, 0, none⟩ = some (.int .i64 0) := (blk_cell k0 0).trans rfl
  have z1 : w1.cell? ⟨w.heap.size, 1, none⟩ = some (.int .i64 0) := (blk_cell k0 1).trans rfl
  have z2 : w1.cell? ⟨w.heap.size, 2, none⟩ = some (.int .i64 0) := (blk_cell k0 2).trans rfl
  have z3 : w1.cell? ⟨w.heap.size, 3, none⟩ = some (.int .i64 0) := (blk_cell k0 3).trans rfl
  have z4 : w1.cell? ⟨w.heap.size, 4, none⟩ = some (.bool false) := (blk_cell k0 4).trans rfl
  have y0 := blk_frozen k0 0
  have y1 := blk_frozen k0 1
  have y2 := blk_frozen k0 2
  have y3 := blk_frozen k0 3
  have y4 := blk_frozen k0 4
  have t1 : decide (room ≤ (l.length : Int)) = true := decide_eq_true hf
  have K0 := Lib.hid k0; have HB := Lib.hid hB2
  clear hfi hB hB2 hrow k0 hf
  go_wp2_with fail
  go_quiet (fail)
  go_wp2_with fail
  refine bodyPost_ret (results_ct rfl _ _ w.heap.size 50 #[.int .i64 0, .int .i64 0, .int .i64 0, .int .i64 0, .bool false] (0, 0) _ rfl ?hp Try.underlying50 rfl (by kernel_rfl)) rfl ?_
  case hp =>
    repeat (with_reducible first | exact K0.out | refine blk_drewN ?_ _ | refine blk_drew ?_ | refine blk_put (cs := #[.int .i64 0, .int .i64 0, .int .i64 0, .int .i64 0, .bool false]) ?_ _ _ rfl)
  · refine ⟨rfl, ?_⟩
    repeat (with_reducible first | exact HB.out | refine below_set ?_ (Nat.le_refl _) _ _ | refine pw_below_drewN ?_ _ | refine below_alloc ?_ _)
end Go.Proofs.Ytanhibhcmfmeeaa.Kv
/- A store of pairs: Put where there is room. -/
namespace Go.Proofs.Ytanhibhcmfmeeaa.Kv
open Go.RowKit Go.Proofs.YtanhibhcmfmeeaaW.PrintWords Go.Proofs.YtanhibhcmfmeeaaW.PrintMore Go.Proofs.Ytanhibhcmfmeeaa.Cut Go.Proofs.Ytanhibhcmfmeeaa.Fr Go.Proofs.Ytanhibhcmfmeeaa.SlK
def PutP (w : World) (B s : Nat) (room : Int) (l : L2) (v : Value) (key val : Int) (e : Ending) (w' : World) : Prop :=
  ∃ v', e = .returned (.tuple #[chgV key 0 0 val false, .int .i64 0]) ∧ Own w' B s room (putL key val l) v' ∧ Mv w w' (F s v) (F s v')
/-- The change's row, as it was made. -/
structure ZR (w : World) (q : Nat) : Prop where
  row : w.heap[q]? = some zrow
  z0 : w.cell? ⟨q, 0, none⟩ = some (.int .i64 0)
  z1 : w.cell? ⟨q, 1, none⟩ = some (.int .i64 0)
  z2 : w.cell? ⟨q, 2, none⟩ = some (.int .i64 0)
  z3 : w.cell? ⟨q, 3, none⟩ = some (.int .i64 0)
  z4 : w.cell? ⟨q, 4, none⟩ = some (.bool false)
  y0 : w.frozen? ⟨q, 0, none⟩ = false
  y1 : w.frozen? ⟨q, 1, none⟩ = false
  y2 : w.frozen? ⟨q, 2, none⟩ = false
  y3 : w.frozen? ⟨q, 3, none⟩ = false
  y4 : w.frozen? ⟨q, 4, none⟩ = false
theorem ZR.of {w : World} {q : Nat} (h : w.heap[q]? = some zrow) : ZR w q :=
  ⟨h, (blk_cell h 0).trans rfl, (blk_cell h 1).trans rfl, (blk_cell h 2).trans rfl, (blk_cell h 3).trans rfl, (blk_cell h 4).trans rfl, blk_frozen h 0, blk_frozen h 1, blk_frozen h 2, blk_frozen h 3, blk_frozen h 4⟩
/-- What is left when the row is written: kept apart from the new row q. -/
theorem fin_put {w W : World} {B s q : Nat} {room : Int} {l : L2} {v v' : Value} {key val : Int} (hO : Own W B s room (putL key val l) v') (hM : Mv w W (F s v) (F s v')) (hq : w.heap.size ≤ q) (hqF : ¬ F s v' q) (u0 u1 u2 u3 u4 : Value) :
    Own (((((W.setCell ⟨q, 0, none⟩ u0).setCell ⟨q, 1, none⟩ u1).setCell ⟨q, 2, none⟩ u2).setCell ⟨q, 3, none⟩ u3).setCell ⟨q, 4, none⟩ u4) B s room (putL key val l) v' ∧
    Mv w (((((W.setCell ⟨q, 0, none⟩ u0).setCell ⟨q, 1, none⟩ u1).setCell ⟨q, 2, none⟩ u2).setCell ⟨q, 3, none⟩ u3).setCell ⟨q, 4, none⟩ u4) (F s v) (F s v') := by
  constructor
  · refine hO.kept fun k hk => ?_
    have hne : k ≠ q := fun e => hqF (e ▸ hk)
    rw [Below.heap_setCell _ ⟨q, 4, none⟩ _ k hne, Below.heap_setCell _ ⟨q, 3, none⟩ _ k hne, Below.heap_setCell _ ⟨q, 2, none⟩ _ k hne, Below.heap_setCell _ ⟨q, 1, none⟩ _ k hne, Below.heap_setCell _ ⟨q, 0, none⟩ _ k hne]
  · exact mv_set (mv_set (mv_set (mv_set (mv_set hM (.inr hq) _) (.inr hq) _) (.inr hq) _) (.inr hq) _) (.inr hq) _
set_option maxHeartbeats 4000000 in
theorem put_found {w : World} {B s : Nat} {room : Int} {l : L2} {v : Value} (h : Own w B s room l v) (key val x : Int) (hn : look l key = some x) :
    Calls Try.prog 38 #[.pointer (some ⟨s, 0, none⟩), .int .i64 key, .int .i64 val] w (PutP w B s room l v key val) := by
  have hfi := find_calls (h.below (below_alloc (Below.refl _ _) zrow)) key
  have hrow : (w.alloc zrow).heap[w.heap.size]? = some zrow := (Go.MapKept.heap_alloc w zrow).1
  have hx := look_some h.sorted hn
  have hil := (List.getElem?_eq_some_iff.1 hx).1
  have hput : putL key val l = l.set (idx key l) (key, val) := by unfold putL; rw [hn]; rfl
  rw [hn] at hfi
  have HO := Lib.hid h
  have h1024 : l.length ≤ 1024 := by have := h.fits; have := h.rng; omega
  rcases h.pairs.2 with ⟨rfl, h0⟩ | ⟨g, cap, cur, rfl, hg, hh, k1, k2, k3, k4⟩
  · omega
  obtain ⟨A', c', hv', _, hcl⟩ := row_cells h.pairs
  obtain ⟨g', hA', hcell⟩ := hcl _ _ hx
  injection hv' with hv' _ _
  rw [hA'] at hv'
  injection hv' with hv'
  injection hv' with hv' _ _
  subst hv'
  simp only at hcell
  have hset := enc2_set l (idx key l) (key, x) val hx
  have HP := Lib.hid (And.intro hput (And.intro hset hh))
  generalize hi : idx key l = i at *
  have hii : (i : Int) < (l.length : Int) := by omega
  clear h hn hx hput hset hg hh k3 k4 hi hcl
  go_enter Try.func38, Try.ntmps38
  go_wp2_with fail
  refine hfi.mono ?_
  rintro e w1 ⟨rfl, hB⟩
  have hB2 := below_then (below_alloc (Below.refl _ _) zrow) (by simp) hB
  have hO1 := HO.out.below hB2
  obtain ⟨c0, c1⟩ := hO1.cells
  have hg1 := (hB2.block g (Array.getElem?_eq_some_iff.1 HP.out.2.2).1).trans HP.out.2.2
  have f1 := blk_frozen hg1 (i * 2 + 1)
  have hq := (hB.block w.heap.size (by simp)).trans hrow
  have hqg : w.heap.size ≠ g := by have := (Array.getElem?_eq_some_iff.1 HP.out.2.2).1; omega
  have HQ := Lib.hid hq; have HB := Lib.hid hB2; have HO1 := Lib.hid hO1
  have d1 := (hcell _ hB2).2
  clear hB hB2 hO1 hrow hq hfi hg1 hcell
  go_upto_region 7 with fail
  obtain ⟨W2, hW2⟩ : ∃ W, W = w1.setCell ⟨g, i * 2 + 1, none⟩ (.int .i64 val) := ⟨_, rfl⟩
  rw [← hW2]
  have hst := HO1.out.pairs.stored (i * 2 + 1) (.int .i64 val)
  rw [← hW2] at hst
  rw [HP.out.2.1] at hst
  have hll : (l.set i (key, val)).length = l.length := List.length_set
  have hO2 : Own W2 B s room (putL key val l) (.slice (some ⟨g, 0, none⟩) l.length cap) := by
    refine ⟨?_, ?_, ?_, HO.out.rng, ?_, HO.out.base⟩
    · rw [hW2, Below.heap_setCell _ ⟨g, i * 2 + 1, none⟩ _ s (fun e => HO.out.ne (by rw [e]; rfl))]
      exact HO1.out.row
    · rw [HP.out.1, hll]; exact hst.1
    · exact sorted_put key val HO.out.sorted
    · rw [HP.out.1, hll]; exact HO.out.fits
  have hM2 : Mv w W2 (F s (.slice (some ⟨g, 0, none⟩) l.length cap)) (F s (.slice (some ⟨g, 0, none⟩) l.length cap)) := by
    rw [hW2]
    exact mv_set (Mv.of_below _ HB.out) (.inl (.inr rfl)) _
  have hZ : ZR W2 w.heap.size := .of (by rw [hW2, Below.heap_setCell _ ⟨g, i * 2 + 1, none⟩ _ w.heap.size hqg]; exact HQ.out)
  have hnF : ¬ F s (.slice (some ⟨g, 0, none⟩) l.length cap) w.heap.size := fun e => by have := (HO.out.lt _ e).2; omega
  obtain ⟨hr, z0, z1, z2, z3, z4, y0, y1, y2, y3, y4⟩ := hZ
  have HO2 := Lib.hid hO2; have HM2 := Lib.hid hM2; have HR := Lib.hid hr; have HN := Lib.hid hnF
  clear hO2 hM2 hr hst hW2 HO1 HQ d1 f1 c0 c1 hnF hll
  go_wp2_with fail
  refine bodyPost_ret (results_ct rfl _ _ w.heap.size 50 #[.int .i64 key, .int .i64 0, .int .i64 0, .int .i64 val, .bool false] (0, 0) _ rfl ?hp Try.underlying50 rfl (by kernel_rfl)) rfl ?_
  case hp =>
    exact blk_put (blk_put (blk_put (blk_put (blk_put HR.out 0 _ rfl) 1 _ rfl) 2 _ rfl) 3 _ rfl) 4 _ rfl
  · obtain ⟨q1, q2⟩ := fin_put HO2.out HM2.out (Nat.le_refl _) HN.out (.int .i64 key) (.int .i64 0) (.int .i64 0) (.int .i64 val) (.bool false)
    exact ⟨_, rfl, q1, q2⟩
set_option maxHeartbeats 4000000 in
theorem put_new {w : World} {B s : Nat} {room : Int} {l : L2} {v : Value} (h : Own w B s room l v) (key val : Int) (hn : look l key = none) (hf : (l.length : Int) < room) :
    Calls Try.prog 38 #[.pointer (some ⟨s, 0, none⟩), .int .i64 key, .int .i64 val] w (PutP w B s room l v key val) := by
  have hfi := find_calls (h.below (below_alloc (Below.refl _ _) zrow)) key
  have hrow : (w.alloc zrow).heap[w.heap.size]? = some zrow := (Go.MapKept.heap_alloc w zrow).1
  have hput : putL key val l = l.take (idx key l) ++ (key, val) :: l.drop (idx key l) := by unfold putL; rw [hn]; rfl
  have hlen : (putL key val l).length = l.length + 1 := by have := len_put key val h.sorted; rw [hn] at this; simpa using this
  have hle := idx_le key l
  rw [hn] at hfi
  have HO := Lib.hid h
  have h1024 : l.length ≤ 1024 := by have := h.fits; have := h.rng; omega
  obtain ⟨A, c, rfl, hc, _⟩ := row_cells h.pairs
  have hins := fun (W : World) (hO : Own W B s room l (.slice A l.length c)) (vb : Nat) (hv : W.heap[vb]? = some (.cells #[.int .i64 key, .int .i64 val] 97 (0, 0))) (hne : some vb ≠ (Value.slice A l.length c).ownBlock) =>
    ins_calls W B (.slice A l.length c) l.length (idx key l) (l.flatMap enc2) [.int .i64 key, .int .i64 val] vb hO.pairs (by have := (hO.lt s (.inl rfl)); omega) hle (by omega) (enc2_one l) hv rfl (by simp; exact ⟨rfl, rfl⟩) hne
  have hcs : (l.flatMap enc2).take (idx key l * 2) ++ [.int .i64 key, .int .i64 val] ++ (l.flatMap enc2).drop (idx key l * 2) = (putL key val l).flatMap enc2 := by
    rw [hput, enc2_take, enc2_drop, List.flatMap_append, List.flatMap_cons, List.append_assoc]; rfl
  have HP := Lib.hid (And.intro hput (And.intro hlen hcs))
  have HI := Lib.hid hins
  generalize hi : idx key l = i at *
  clear h hn hput hlen hle hins hcs hi
  have t1 : decide (room ≤ (l.length : Int)) = false := decide_eq_false (by omega)
  go_enter Try.func38, Try.ntmps38
  go_wp2_with fail
  refine hfi.mono ?_
  rintro e w1 ⟨rfl, hB⟩
  have hB2 := below_then (below_alloc (Below.refl _ _) zrow) (by simp) hB
  have hO1 := HO.out.below hB2
  obtain ⟨c0, c1⟩ := hO1.cells
  have hq := (hB.block w.heap.size (by simp)).trans hrow
  have HQ := Lib.hid hq; have HB := Lib.hid hB2; have HO1 := Lib.hid hO1
  clear hB hB2 hO1 hrow hq hfi hf
  go_wp2_with fail
  go_quiet (fail)
  go_wp2_with fail
  have hsl := (HO1.out.lt s (.inl rfl)).2
  obtain ⟨W2, hW2⟩ : ∃ W, W = (w1.drewN nq).alloc (.cells #[.int .i64 key, .int .i64 val] 97) := ⟨_, rfl⟩
  rw [← hW2]
  have hB2 : Below w1.heap.size w1 W2 := by rw [hW2]; exact below_alloc (pw_below_drewN (Below.refl _ _) nq) _
  have hO2 := HO1.out.below hB2
  have hv2 : W2.heap[w1.heap.size]? = some (.cells #[.int .i64 key, .int .i64 val] 97 (0, 0)) := by rw [hW2]; exact (Go.MapKept.heap_alloc (w1.drewN nq) _).1
  have hne : some w1.heap.size ≠ (Value.slice A l.length c).ownBlock := fun e => by have := (HO1.out.lt w1.heap.size (.inr e)).2; omega
  refine (HI.out W2 hO2 w1.heap.size hv2 hne).mono ?_
  rintro e w3 ⟨v', rfl, hown, hg3, hat⟩
  obtain ⟨A', c', rfl⟩ := own_slice hown
  have hrow3 := (hg3.block s (by have := hB2.size; omega) HO.out.ne).trans hO2.row
  have c0' : w3.cell? ⟨s, 0, none⟩ = some (.int .i64 room) := (blk_cell hrow3 0).trans rfl
  have c1' : w3.cell? ⟨s, 1, none⟩ = some (.slice A l.length c) := (blk_cell hrow3 1).trans rfl
  have f1 := blk_frozen hrow3 1
  have hq2 := (hB2.block w.heap.size (Array.getElem?_eq_some_iff.1 HQ.out).1).trans HQ.out
  have hnv : some w.heap.size ≠ (Value.slice A l.length c).ownBlock := fun e => by have := (HO.out.lt w.heap.size (.inr e)).2; omega
  have hq3 := (hg3.block w.heap.size (Array.getElem?_eq_some_iff.1 hq2).1 hnv).trans hq2
  have hM3 : Mv w w3 (F s (.slice A l.length c)) (F s (.slice A' (l.length + 1) c')) := by
    refine ((Mv.of_below (F s (.slice A l.length c)) HB.out).trans (Mv.of_below _ hB2)).trans (Mv.of_grown hg3 (fun k e => .inr e.symm) fun k hk => ?_)
    rcases hk with hk | hk
    · exact .inl (.inl hk)
    · rcases hat with hat | ⟨b, hb, hb2⟩
      · exact .inl (.inr (hat ▸ hk))
      · rw [hb] at hk
        injection hk with hk
        exact .inr (hk ▸ hb2)
  have HM3 := Lib.hid hM3; have HW3 := Lib.hid hown; have HQ3 := Lib.hid hq3; have HR3 := Lib.hid hrow3
  clear hown hg3 hat hrow3 hq2 hq3 hM3 hO2 hv2 hne hB2 hW2 HQ c0 c1
  have hsq : s ≠ w.heap.size := by have := (HO.out.lt s (.inl rfl)).2; omega
  go_upto_region 7 with fail
  obtain ⟨W4, hW4⟩ : ∃ W, W = w3.setCell ⟨s, 1, none⟩ (.slice A' (l.length + 1) c') := ⟨_, rfl⟩
  rw [← hW4]
  have hown4 : W4.ownsRow B 97 2 (.slice A' (l.length + 1) c') (l.length + 1) ((putL key val l).flatMap enc2) := by
    have h1 := HW3.out
    rw [HP.out.2.2] at h1
    refine own_move h1 fun k hk => ?_
    rw [hW4]
    refine Below.heap_setCell _ ⟨s, 1, none⟩ _ k fun e => ?_
    rw [show k = s from e] at hk
    obtain ⟨cells, hc⟩ := own_typed h1 s hk
    rw [HR3.out] at hc
    injection hc with hc
    injection hc with _ hc
    exact absurd hc (by decide)
  have hO4 : Own W4 B s room (putL key val l) (.slice A' (l.length + 1) c') := by
    refine ⟨?_, by rw [HP.out.2.1]; exact hown4, sorted_put key val HO.out.sorted, HO.out.rng, by rw [HP.out.2.1]; push_cast; have := of_decide_eq_false t1; omega, HO.out.base⟩
    rw [hW4]
    exact blk_put HR3.out 1 _ rfl
  have hM4 : Mv w W4 (F s (.slice A l.length c)) (F s (.slice A' (l.length + 1) c')) := by
    rw [hW4]
    exact mv_set HM3.out (.inl (.inl rfl)) _
  have hZ : ZR W4 w.heap.size := .of (by rw [hW4, Below.heap_setCell _ ⟨s, 1, none⟩ _ w.heap.size (fun e => hsq e.symm)]; exact HQ3.out)
  have hnF : ¬ F s (.slice A' (l.length + 1) c') w.heap.size := by
    rintro (e | e)
    · exact hsq e.symm
    · obtain ⟨cells, hc⟩ := own_typed hown4 w.heap.size e.symm
      rw [hZ.row] at hc
      injection hc with hc
      injection hc with _ hc
      exact absurd hc (by decide)
  obtain ⟨hr, z0, z1, z2, z3, z4, y0, y1, y2, y3, y4⟩ := hZ
  have HO4 := Lib.hid hO4; have HM4 := Lib.hid hM4; have HR := Lib.hid hr; have HN := Lib.hid hnF
  clear hO4 hM4 hr hown4 hW4 HO1 HQ3 HR3 HW3 HM3 c0' c1' f1 hnF
  go_wp2_with fail
  refine bodyPost_ret (results_ct rfl _ _ w.heap.size 50 #[.int .i64 key, .int .i64 0, .int .i64 0, .int .i64 val, .bool false] (0, 0) _ rfl ?hp Try.underlying50 rfl (by kernel_rfl)) rfl ?_
  case hp =>
    exact blk_put (blk_put (blk_put (blk_put (blk_put HR.out 0 _ rfl) 1 _ rfl) 2 _ rfl) 3 _ rfl) 4 _ rfl
  · obtain ⟨q1, q2⟩ := fin_put HO4.out HM4.out (Nat.le_refl _) HN.out (.int .i64 key) (.int .i64 0) (.int .i64 0) (.int .i64 val) (.bool false)
    exact ⟨_, rfl, q1, q2⟩
/-- Put where there is room. -/
theorem put_ok {w : World} {B s : Nat} {room : Int} {l : L2} {v : Value} (h : Own w B s room l v) (key val : Int) (hf : look l key = none → (l.length : Int) < room) :
    Calls Try.prog 38 #[.pointer (some ⟨s, 0, none⟩), .int .i64 key, .int .i64 val] w (PutP w B s room l v key val) := by
  cases hl : look l key with
  | none => exact put_new h key val hl (hf hl)
  | some x => exact put_found h key val x hl
end Go.Proofs.Ytanhibhcmfmeeaa.Kv
