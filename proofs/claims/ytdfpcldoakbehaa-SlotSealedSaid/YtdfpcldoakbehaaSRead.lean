import Derived.Test.YtdfpcldoakbehaaSWrite
/- The walks of Read and Epoch. -/
namespace Go.Proofs.Ytdfpcldoakbehaa.Slot
open Go.RowKit Go.Maps Go.Proofs.YtdfpcldoakbehaaW.PrintWords Go.Proofs.YtdfpcldoakbehaaW.PrintMore Go.Proofs.Ytdfpcldoakbehaa.Row Go.Proofs.Ytdfpcldoakbehaa.Cut Go.Proofs.Ytdfpcldoakbehaa.DiskM Go.Proofs.Ytdfpcldoakbehaa.Quor
def readF (m : List B3) (a : Int) : Int × B3 := match look m a with
  | none => (6, (0, 0, []))
  | some c => (0, c)
def ReadP (w : World) (r : Int × B3) (e : Ending) (w' : World) : Prop := ∃ z : C4, e = .returned (.tuple #[agg4 z, .int .i64 r.1]) ∧ z.c3 = r.2 ∧ OwnB w' w.heap.size z ∧ Below w.heap.size w w'
set_option maxHeartbeats 1000000 in
theorem epoch_calls {w0 w : World} {n : NB} {room : Int} {bs : List Int} {safe : Nat} {ep : Int} {m : List C4} (N : Nd w0 w n room bs safe ep m) :
    Calls Try.prog 16 #[.pointer (some ⟨n.gn, 0, none⟩)] w fun e w' => e = .returned (.int .i64 ep) ∧ w = w' := by
  obtain ⟨_, c1, _, _⟩ := N.cells
  clear N
  go_enter Try.func16, Try.ntmps16
  go_wp2
  go_ret
  exact ⟨rfl, rfl⟩
set_option maxRecDepth 1000000 in
set_option maxHeartbeats 4000000 in
theorem read_calls {w0 w : World} {n : NB} {room : Int} {bs : List Int} {ep : Int} {m : List C4} (N : Nd w0 w n room bs bs.length ep m) (a : Int) (ha : W64 a) :
    Calls Try.prog 13 #[.pointer (some ⟨n.gn, 0, none⟩), .int .i64 a] w (ReadP w (readF (m.map C4.c3) a)) := by
  have hb1 := (Below.refl w.heap.size w).alloc (Nat.le_refl _) (.cells #[.int .i64 0, .int .i64 0, .slice none 0 0] 34)
  have hk1 := heap_alloc_new w (.cells #[.int .i64 0, .int .i64 0, .slice none 0 0] 34)
  have N1 := N.below hb1
  obtain ⟨_, _, c2, _⟩ := N1.cells
  have hlk := N1.lookup ha
  have HN1 := Lib.hid N1
  cases hlo : look4 m a with
  | none =>
    rw [hlo] at hlk
    simp only [val4, Option.elim, zero4, Option.isSome] at hlk
    have hF : readF (m.map C4.c3) a = (6, (0, 0, [])) := by unfold readF; rw [look_map, hlo]; rfl
    have hb2 := hb1.alloc (by simp) (.cells #[.int .i64 0, .int .i64 0, .slice none 0 0] 34)
    have hk2 := heap_alloc_old (w.alloc (.cells #[.int .i64 0, .int .i64 0, .slice none 0 0] 34)) (.cells #[.int .i64 0, .int .i64 0, .slice none 0 0] 34) (r := w.heap.size) (by simp)
    have HF := Lib.hid hF; have HB2 := Lib.hid hb2; have HK2 := Lib.hid (hk2.trans hk1)
    clear N N1 hlo hF hb1 hk1 hb2 hk2
    go_enter Try.func13, Try.ntmps13
    go_wp2
    refine bodyPost_ret (results_ct rfl _ _ w.heap.size 34 #[.int .i64 0, .int .i64 0, .slice none 0 0] (0, 0) _ rfl HK2.out Try.underlying34 rfl (by kernel_rfl)) rfl ?_
    rw [HF.out]
    exact ⟨⟨0, 0, [], none, 0⟩, rfl, rfl, Kd.R_nil _ _ _ _ _, HB2.out⟩
  | some z =>
    have hzm := (look4_mem hlo).1
    obtain ⟨hzc, hzC⟩ := N.bytes hzm
    have hzl := (N.rngc z hzm).2.2.1
    obtain ⟨za, ze, zb, zA, zc⟩ := z
    simp only at hzc hzC hzl
    rw [hlo] at hlk
    simp only [val4, Option.elim, agg4, Option.isSome] at hlk
    have hF : readF (m.map C4.c3) a = (0, (za, ze, zb)) := by unfold readF; rw [look_map, hlo]; rfl
    have hb2 := hb1.alloc (by simp) (.cells #[.int .i64 za, .int .i64 ze, .slice zA zb.length zc] 34)
    have hk2 := heap_alloc_old (w.alloc (.cells #[.int .i64 0, .int .i64 0, .slice none 0 0] 34)) (.cells #[.int .i64 za, .int .i64 ze, .slice zA zb.length zc] 34) (r := w.heap.size) (by simp)
    have how := own_calls ⟨za, ze, zb, zA, zc⟩ ((w.alloc (.cells #[.int .i64 0, .int .i64 0, .slice none 0 0] 34)).alloc (.cells #[.int .i64 za, .int .i64 ze, .slice zA zb.length zc] 34)) ⟨hzc, Kd.C_below hzC hb2⟩ (by show zb.length ≤ _; omega)
    simp only at how
    have HF := Lib.hid hF; have HB2 := Lib.hid hb2; have HK2 := Lib.hid (hk2.trans hk1)
    clear N N1 hlo hF hb1 hk1 hb2 hk2 hzm hzC hzc hzl
    go_enter Try.func13, Try.ntmps13
    go_wp2_with fail
    refine how.mono ?_
    rintro e w3 ⟨z', rfl, hc3, hO, hb3⟩
    obtain ⟨ya, ye, yb, yA, yc⟩ := z'
    have hk3 := (hb3.block w.heap.size (by simp; omega)).trans HK2.out
    have f0 := blk_frozen hk3 0
    have f1 := blk_frozen hk3 1
    have f2 := blk_frozen hk3 2
    have y0 := (blk_cell hk3 0).trans rfl
    have y1 := (blk_cell hk3 1).trans rfl
    have y2 := (blk_cell hk3 2).trans rfl
    have HO := Lib.hid (And.intro hc3 (And.intro hO (And.intro (below_step HB2.out hb3) hk3)))
    clear how hc3 hO hb3 hk3 hlk c2
    simp only
    go_wp2
    obtain ⟨hc3, hO, hb3, hk3⟩ := HO.out
    have hlow : w.heap.size < ((w.alloc (.cells #[.int .i64 0, .int .i64 0, .slice none 0 0] 34)).alloc (.cells #[.int .i64 za, .int .i64 ze, .slice zA zb.length zc] 34)).heap.size := by simp; omega
    have b3 := below_set' (below_set' (below_set' hb3 (Nat.le_refl w.heap.size) 0 (.int .i64 ya)) (Nat.le_refl _) 1 (.int .i64 ye)) (Nat.le_refl _) 2 (.slice yA yb.length yc)
    have b5 := blk_put (cs' := #[.int .i64 ya, .int .i64 ye, .slice yA yb.length yc]) (blk_put (blk_put hk3 0 (.int .i64 ya) rfl) 1 (.int .i64 ye) rfl) 2 (.slice yA yb.length yc) (by simp)
    have hO3 := R_set_low (R_set_low (R_set_low hO hlow 0 (.int .i64 ya)) hlow 1 (.int .i64 ye)) hlow 2 (.slice yA yb.length yc)
    refine bodyPost_ret (results_ct rfl _ _ w.heap.size 34 #[.int .i64 ya, .int .i64 ye, .slice yA yb.length yc] (0, 0) _ rfl b5 Try.underlying34 rfl (by kernel_rfl)) rfl ?_
    rw [HF.out]
    exact ⟨⟨ya, ye, yb, yA, yc⟩, rfl, hc3, Kd.R_lower hO3 (Nat.le_of_lt hlow), b3⟩
end Go.Proofs.Ytdfpcldoakbehaa.Slot
