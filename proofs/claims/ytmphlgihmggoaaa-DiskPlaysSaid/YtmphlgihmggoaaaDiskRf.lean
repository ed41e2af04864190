import Derived.Test.YtmphlgihmggoaaaDiskSt
/- The document's disk: the contracts of Append and Cut, over fields that are read. -/
namespace Go.Proofs.Ytmphlgihmggoaaa.DiskM
open Go.RowKit Go.Proofs.YtmphlgihmggoaaaW.PrintWords Go.Proofs.YtmphlgihmggoaaaW.PrintLast Go.Proofs.YtmphlgihmggoaaaW.PrintMore Go.Proofs.Ytmphlgihmggoaaa.Row Go.Proofs.Ytmphlgihmggoaaa.Cut
theorem two_blk (w : World) (o : Obj) (cs : Array Value) : ((w.alloc o).alloc (.cells cs 38)).heap[w.heap.size + 1]? = some (.cells cs 38 (0, 0)) := by
  have h := heap_alloc_new (w.alloc o) (.cells cs 38)
  have e : (w.alloc o).heap.size = w.heap.size + 1 := by simp
  rwa [e] at h
theorem two_below (w : World) (o o' : Obj) : Below w.heap.size w ((w.alloc o).alloc o') :=
  ((Below.refl w.heap.size w).alloc (Nat.le_refl _) o).alloc (by simp) o'
theorem put3 {W : World} {g : Nat} {x y z : Value} (h : W.heap[g]? = some (.cells #[x, y, z] 38 (0, 0))) (a b c : Value) : (((W.setCell ⟨g, 0, none⟩ a).setCell ⟨g, 1, none⟩ b).setCell ⟨g, 2, none⟩ c).heap[g]? = some (.cells #[a, b, c] 38 (0, 0)) :=
  heap_setCell_same _ g 2 _ 38 c (heap_setCell_same _ g 1 _ 38 b (heap_setCell_same W g 0 _ 38 a h))
section
variable (w : World) (room : Int) (A1 : Option Addr) (c1 : Nat) (S : List Int) (A2 : Option Addr) (c2 : Nat) (M : List Int)
set_option maxHeartbeats 2000000 in
theorem rappend_full (A3 : Option Addr) (c3 : Nat) (B : List Int) (hs : S.length ≤ 1048576) (hm : M.length ≤ 1048576) (hb : B.length ≤ 140737488351232) (hf : room < (S.length : Int) + M.length + B.length) :
    Calls Try.prog 17 #[.agg #[.int .i64 room, .slice A1 S.length c1, .slice A2 M.length c2], .slice A3 B.length c3] w fun e w' => e = .returned (.tuple #[.agg #[.int .i64 room, .slice A1 S.length c1, .slice A2 M.length c2], .int .i64 3]) ∧ Below w.heap.size w w' := by
  go_enter Try.func17, Try.ntmps17
  go_wp2
  exact bodyPost_ret (results_ct rfl _ _ (w.heap.size + 1) 38 #[.int .i64 room, .slice A1 S.length c1, .slice A2 M.length c2] (0, 0) _ rfl (two_blk w _ _) Try.underlying38 rfl (by kernel_rfl)) rfl ⟨rfl, two_below w _ _⟩
set_option maxHeartbeats 2000000 in
theorem rcut_bad (n : Int) (hs : S.length ≤ 1048576) (hm : M.length ≤ 1048576) (hf : n < 0 ∨ (S.length : Int) + M.length < n) :
    Calls Try.prog 20 #[.agg #[.int .i64 room, .slice A1 S.length c1, .slice A2 M.length c2], .int .i64 n] w fun e w' => e = .returned (.tuple #[.agg #[.int .i64 room, .slice A1 S.length c1, .slice A2 M.length c2], .int .i64 2]) ∧ Below w.heap.size w w' := by
  rcases hf with hf | hf
  · go_enter Try.func20, Try.ntmps20
    go_wp2
    exact bodyPost_ret (results_ct rfl _ _ (w.heap.size + 1) 38 #[.int .i64 room, .slice A1 S.length c1, .slice A2 M.length c2] (0, 0) _ rfl (two_blk w _ _) Try.underlying38 rfl (by kernel_rfl)) rfl ⟨rfl, two_below w _ _⟩
  · have h0 : ¬ n < 0 := by omega
    go_enter Try.func20, Try.ntmps20
    go_wp2
    exact bodyPost_ret (results_ct rfl _ _ (w.heap.size + 1) 38 #[.int .i64 room, .slice A1 S.length c1, .slice A2 M.length c2] (0, 0) _ rfl (two_blk w _ _) Try.underlying38 rfl (by kernel_rfl)) rfl ⟨rfl, two_below w _ _⟩
set_option maxHeartbeats 2000000 in
theorem rcut_tail (n : Nat) (hc2 : M.length ≤ c2) (hM : (Kd.int .u8).C w A2 M.length M) (hs : S.length ≤ 1048576) (hm : M.length ≤ 1048576) (h1 : S.length < n) (h2 : n ≤ S.length + M.length) :
    Calls Try.prog 20 #[.agg #[.int .i64 room, .slice A1 S.length c1, .slice A2 M.length c2], .int .i64 n] w fun e w' => e = .returned (.tuple #[.agg #[.int .i64 room, .slice A1 S.length c1, .slice A2 (M.take (n - S.length)).length c2], .int .i64 0]) ∧ Below w.heap.size w w' := by
  obtain ⟨R, hR, CR, hRc, hcut⟩ := head_cut (P := Try.prog) (d := Kd.int .u8) 22 5 .i64 Try.underlying22 info5 hM hc2 ((n : Int) - (S.length : Int)) (n - S.length) (by omega) (by omega)
  rw [← hR]
  have q1 : (S.length : Int) < (n : Int) := by omega
  have q2 : (n : Int) ≤ (S.length : Int) + (M.length : Int) := by omega
  have q3 : ¬ (n : Int) < 0 := by omega
  have q4 : 0 ≤ (n : Int) - (S.length : Int) := by omega
  clear hR CR hRc hM
  go_enter Try.func20, Try.ntmps20
  go_wp2
  exact bodyPost_ret (results_ct rfl _ _ (w.heap.size + 1) 38 #[.int .i64 room, .slice A1 S.length c1, .slice A2 R.length c2] (0, 0) _ rfl (two_blk w _ _) Try.underlying38 rfl (by kernel_rfl)) rfl ⟨rfl, two_below w _ _⟩
set_option maxHeartbeats 2000000 in
theorem rcut_head (n : Nat) (hc1 : S.length ≤ c1) (hS : (Kd.int .u8).C w A1 S.length S) (hs : S.length ≤ 1048576) (hm : M.length ≤ 1048576) (h1 : n ≤ S.length) :
    Calls Try.prog 20 #[.agg #[.int .i64 room, .slice A1 S.length c1, .slice A2 M.length c2], .int .i64 n] w fun e w' => e = .returned (.tuple #[.agg #[.int .i64 room, .slice A1 (S.take n).length c1, .slice none 0 0], .int .i64 0]) ∧ Below w.heap.size w w' := by
  obtain ⟨R, hR, CR, hRc, hcut⟩ := head_cut (P := Try.prog) (d := Kd.int .u8) 22 5 .i64 Try.underlying22 info5 hS hc1 (n : Int) n rfl h1
  rw [← hR]
  have q1 : (n : Int) ≤ (S.length : Int) := by omega
  have q2 : (n : Int) ≤ (S.length : Int) + (M.length : Int) := by omega
  have q3 : ¬ (n : Int) < 0 := by omega
  clear hR CR hRc hS
  have hb0 := two_below w (.cells #[.int .i64 room, .slice A1 S.length c1, .slice A2 M.length c2] 38) (.cells #[.int .i64 0, .slice none 0 0, .slice none 0 0] 38)
  have x0 := two_blk w (.cells #[.int .i64 room, .slice A1 S.length c1, .slice A2 M.length c2] 38) #[.int .i64 0, .slice none 0 0, .slice none 0 0]
  have x1 : ((w.alloc (.cells #[.int .i64 room, .slice A1 S.length c1, .slice A2 M.length c2] 38)).alloc (.cells #[.int .i64 0, .slice none 0 0, .slice none 0 0] 38)).heap[w.heap.size]? = some (.cells #[.int .i64 room, .slice A1 S.length c1, .slice A2 M.length c2] 38 (0, 0)) :=
    (((Below.refl (w.heap.size + 1) (w.alloc (.cells #[.int .i64 room, .slice A1 S.length c1, .slice A2 M.length c2] 38))).alloc (by simp) _).block w.heap.size (by omega)).trans (heap_alloc_new w _)
  have X0 := Lib.hid x0; have X1 := Lib.hid x1; have HB0 := Lib.hid hb0
  clear x0 x1 hb0
  go_enter Try.func20, Try.ntmps20
  go_wp2
  generalize ((w.alloc (.cells #[.int .i64 room, .slice A1 S.length c1, .slice A2 M.length c2] 38)).alloc (.cells #[.int .i64 0, .slice none 0 0, .slice none 0 0] 38)) = W0 at *
  have y0 : W0.cell? ⟨w.heap.size, 0, none⟩ = some (.int .i64 room) := blk_cell X1.out 0
  have y1 : W0.cell? ⟨w.heap.size, 1, none⟩ = some (.slice A1 S.length c1) := blk_cell X1.out 1
  have z0 : W0.cell? ⟨w.heap.size + 1, 0, none⟩ = some (.int .i64 0) := blk_cell X0.out 0
  have z1 : W0.cell? ⟨w.heap.size + 1, 1, none⟩ = some (.slice none 0 0) := blk_cell X0.out 1
  have z2 : W0.cell? ⟨w.heap.size + 1, 2, none⟩ = some (.slice none 0 0) := blk_cell X0.out 2
  have zf0 := blk_frozen X0.out 0; have zf1 := blk_frozen X0.out 1; have zf2 := blk_frozen X0.out 2
  go_still_tail 7, (by kernel_rfl)
  change wpList _ _ _ _ _ W0.drew
  go_wp2
  exact bodyPost_ret (results_ct rfl _ _ (w.heap.size + 1) 38 #[.int .i64 room, .slice A1 R.length c1, .slice none 0 0] (0, 0) _ rfl (put3 X0.out _ _ _) Try.underlying38 rfl (by kernel_rfl)) rfl ⟨rfl, (below_set (below_set (below_set HB0.out (by simp)) (by simp)) (by simp)).drew⟩
set_option maxHeartbeats 2000000 in
theorem rappend_ok (A3 : Option Addr) (c3 : Nat) (B : List Int) (hS : (Kd.int .u8).C w A1 S.length S) (hM : (Kd.int .u8).C w A2 M.length M) (hB : (Kd.int .u8).C w A3 B.length B) (hs : S.length ≤ 1048576) (hm : M.length ≤ 1048576) (hroom : room ≤ 1048576) (hf : (S.length : Int) + M.length + B.length ≤ room) :
    Calls Try.prog 17 #[.agg #[.int .i64 room, .slice A1 S.length c1, .slice A2 M.length c2], .slice A3 B.length c3] w fun e w' => ∃ A c, e = .returned (.tuple #[.agg #[.int .i64 room, .slice A1 S.length c1, .slice A (M ++ B).length c], .int .i64 0]) ∧ Row w' w.heap.size 5 (.slice A (M ++ B).length c) (nums .u8 (M ++ B)) ∧ Below w.heap.size w w' := by
  obtain ⟨gx, hgx⟩ : ∃ gx, gx = w.heap.size := ⟨_, rfl⟩
  have hb0 : Below gx w ((w.alloc (.cells #[.int .i64 room, .slice A1 S.length c1, .slice A2 M.length c2] 38)).alloc (.cells #[.int .i64 0, .slice none 0 0, .slice none 0 0] 38)) := hgx ▸ two_below w _ _
  have x0 := two_blk w (.cells #[.int .i64 room, .slice A1 S.length c1, .slice A2 M.length c2] 38) #[.int .i64 0, .slice none 0 0, .slice none 0 0]
  have x1 : ((w.alloc (.cells #[.int .i64 room, .slice A1 S.length c1, .slice A2 M.length c2] 38)).alloc (.cells #[.int .i64 0, .slice none 0 0, .slice none 0 0] 38)).heap[w.heap.size]? = some (.cells #[.int .i64 room, .slice A1 S.length c1, .slice A2 M.length c2] 38 (0, 0)) :=
    (((Below.refl (w.heap.size + 1) (w.alloc (.cells #[.int .i64 room, .slice A1 S.length c1, .slice A2 M.length c2] 38))).alloc (by simp) _).block w.heap.size (by omega)).trans (heap_alloc_new w _)
  have hz : ((w.alloc (.cells #[.int .i64 room, .slice A1 S.length c1, .slice A2 M.length c2] 38)).alloc (.cells #[.int .i64 0, .slice none 0 0, .slice none 0 0] 38)).heap.size = w.heap.size + 1 + 1 := by simp
  rw [← hgx] at x0 x1 hz ⊢
  have HS := Lib.hid hS; have HM := Lib.hid hM; have HB := Lib.hid hB; have HG := Lib.hid hgx
  clear hS hM hB
  go_enter Try.func17, Try.ntmps17
  go_upto_region 3 with fail
  rw [← HG.out]
  generalize ((w.alloc (.cells #[.int .i64 room, .slice A1 S.length c1, .slice A2 M.length c2] 38)).alloc (.cells #[.int .i64 0, .slice none 0 0, .slice none 0 0] 38)) = W0 at *
  have hbw : Below gx w (W0.alloc (.cells #[] 5)) := hb0.alloc (by omega) _
  have hzw : (W0.alloc (.cells #[] 5)).heap.size = gx + 1 + 1 + 1 := by simp [hz]
  have y0 : (W0.alloc (.cells #[] 5)).heap[gx + 1]? = some (.cells #[.int .i64 0, .slice none 0 0, .slice none 0 0] 38 (0, 0)) := (((Below.refl (gx + 2) W0).alloc (by omega) _).block (gx + 1) (by omega)).trans x0
  have y1 : (W0.alloc (.cells #[] 5)).heap[gx]? = some (.cells #[.int .i64 room, .slice A1 S.length c1, .slice A2 M.length c2] 38 (0, 0)) := (((Below.refl (gx + 2) W0).alloc (by omega) _).block gx (by omega)).trans x1
  obtain ⟨A4, c4, w3, hr3, R3, G3, at3⟩ := append_u8 (W0.alloc (.cells #[] 5)) gx _ [] (empty_row W0 gx (by omega)) A2 c2 M (Kd.C_below HM.out (by rw [← HG.out]; exact hbw)) (by simp; omega) (by omega)
  simp only [List.length_nil, Nat.zero_add, List.nil_append] at hr3 R3 at3
  have hbw3 : Below gx w w3 := hbw.grown G3 (by omega) (fun k hk => by
    have hk' : k = W0.heap.size := by simpa [Value.ownBlock] using hk.symm
    omega)
  have hs3 := G3.size
  have v0 : w3.heap[gx + 1]? = _ := (G3.block (gx + 1) (by omega) (fun e => by
    have hk' : gx + 1 = W0.heap.size := by simpa [Value.ownBlock] using e
    omega)).trans y0
  have v1 : w3.heap[gx]? = _ := (G3.block gx (by omega) (fun e => by
    have hk' : gx = W0.heap.size := by simpa [Value.ownBlock] using e
    omega)).trans y1
  obtain ⟨A5, c5, w4, hr4, R4, G4, at4⟩ := append_u8 w3 gx _ M R3 A3 c3 B (Kd.C_below HB.out (by rw [← HG.out]; exact hbw3)) (by omega) (by omega)
  have hbw4 : Below gx w w4 := hbw3.grown G4 (by omega) (fun k hk => (R3.lt k hk).1)
  have t0 : w4.heap[gx + 1]? = _ := (G4.block (gx + 1) (by omega) (fun e => by
    obtain ⟨_, _, cur, h⟩ := R3.lt _ e.symm
    exact blk_ne h v0 (by decide) rfl)).trans v0
  have t1 : w4.heap[gx]? = _ := (G4.block gx (by omega) (fun e => by
    obtain ⟨_, _, cur, h⟩ := R3.lt _ e.symm
    exact blk_ne h v1 (by decide) rfl)).trans v1
  have k2 : (W0.alloc (.cells #[] 5)).cell? ⟨gx, 2, none⟩ = some (.slice A2 M.length c2) := blk_cell y1 2
  have r0 : w4.cell? ⟨gx, 0, none⟩ = some (.int .i64 room) := blk_cell t1 0
  have r1 : w4.cell? ⟨gx, 1, none⟩ = some (.slice A1 S.length c1) := blk_cell t1 1
  have r2 : w4.cell? ⟨gx, 2, none⟩ = some (.slice A2 M.length c2) := blk_cell t1 2
  have rf0 := blk_frozen t1 0; have rf1 := blk_frozen t1 1; have rf2 := blk_frozen t1 2
  have z0 : w4.cell? ⟨gx + 1, 0, none⟩ = some (.int .i64 0) := blk_cell t0 0
  have z1 : w4.cell? ⟨gx + 1, 1, none⟩ = some (.slice none 0 0) := blk_cell t0 1
  have z2 : w4.cell? ⟨gx + 1, 2, none⟩ = some (.slice none 0 0) := blk_cell t0 2
  have zf0 := blk_frozen t0 0; have zf1 := blk_frozen t0 1; have zf2 := blk_frozen t0 2
  have HR3 := Lib.hid hr3; have HR4 := Lib.hid hr4; have HW4 := Lib.hid R4; have T0 := Lib.hid t0; have T1 := Lib.hid t1; have HB4 := Lib.hid hbw4
  clear hr3 hr4 R3 R4 G3 G4 at3 at4 hbw hbw3 hbw4 t0 t1 v0 v1 y0 y1 x0 x1 hz hzw hs3 hb0 hgx
  go_wp2_with (first | (at_builtin; refine wpList_append_run rfl _ _ 22 rfl _ _ _ rfl rfl HR3.out ?_) | (at_builtin; refine wpList_append_run rfl _ _ 22 rfl _ _ _ rfl rfl HR4.out ?_))
  have hrow : Row ((((w4.setCell ⟨gx, 2, none⟩ (.slice A5 (M.length + B.length) c5)).setCell ⟨gx + 1, 0, none⟩ (.int .i64 room)).setCell ⟨gx + 1, 1, none⟩ (.slice A1 S.length c1)).setCell ⟨gx + 1, 2, none⟩ (.slice A5 (M.length + B.length) c5)) gx 5 (.slice A5 (M.length + B.length) c5) (nums .u8 (M ++ B)) := HW4.out.move fun k hk => by
    obtain ⟨_, _, cur, h⟩ := HW4.out.lt k hk
    have n0 := blk_ne h T0.out (by decide)
    have n1 := blk_ne h T1.out (by decide)
    rw [set_other _ n0, set_other _ n0, set_other _ n0, set_other _ n1]
  refine bodyPost_ret (results_ct rfl _ _ (gx + 1) 38 #[.int .i64 room, .slice A1 S.length c1, .slice A5 (M.length + B.length) c5] (0, 0) _ rfl (put3 ((set_other _ (by omega)).trans T0.out) _ _ _) Try.underlying38 rfl (by kernel_rfl)) rfl ?_
  obtain rfl := HG.out
  refine ⟨A5, c5, ?_, ?_, below_set (below_set (below_set (below_set HB4.out ?_) ?_) ?_) ?_⟩
  · rw [List.length_append]; rfl
  · rw [List.length_append]; exact hrow
  all_goals first | exact Nat.le_refl _ | exact Nat.le_succ _
end
end Go.Proofs.Ytmphlgihmggoaaa.DiskM
