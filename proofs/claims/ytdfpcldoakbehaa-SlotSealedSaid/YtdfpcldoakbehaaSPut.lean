import Derived.Test.YtdfpcldoakbehaaSFrame
import Derived.Deep.RegionLaw
import Derived.Deep.RegionHeld3
/- The walk of Put: a payload behind the others. -/
namespace Go.Proofs.Ytdfpcldoakbehaa.Slot
open Go.RowKit Go.Maps Go.Proofs.YtdfpcldoakbehaaW.PrintWords Go.Proofs.YtdfpcldoakbehaaW.PrintMore Go.Proofs.Ytdfpcldoakbehaa.Row Go.Proofs.Ytdfpcldoakbehaa.Cut Go.Proofs.Ytdfpcldoakbehaa.DiskM Go.Proofs.Ytdfpcldoakbehaa.Quor
open Go.Proofs.Ytdfpcldoakbehaa.Pack (append_u8 empty_row info5)
open Go.Proofs.Ytdfpcldoakbehaa.Crc (frameF frameF_len frameF_bytes uintB_len)
section
variable {P : Program} {ops : Array Oper} {o : Oper} {a : Act} {Q : Exit → Act → World → Prop} {Kc : Act → World → Prop}
theorem step_append_run {w w' : World} (hw : Region.wanted o (yielded ops a.tmps) = true) (s x : Operand) (t : TypeId)
    (ho : o.op = .call { callee := .builtin .append, args := #[s, x], argTypes := #[t, t] }) (vs vx v' : Value) (hs : a.eval s = vs) (hx : a.eval x = vx) (hr : (Builtin.append_ #[t, t] o.type #[vs, vx]).run P w = .ok v' w')
    (h : Kc (a.put o.dst v') w') : if Region.wanted o (yielded ops a.tmps) = true then Oper.wp P o a w Kc Q else Kc (a.put o.dst undef) w := by
  rw [if_pos hw]
  unfold Oper.wp execOp
  simp only [ho, resolve, invoke, builtin, Sem.run_bind, Sem.run_pure, Result.andThen_ok, List.map_toArray, List.map_cons, List.map_nil, hs, hx, hr]
  exact h
end
theorem info23 : (Try.prog.info? 23).map (fun i => (i.zero, i.size, i.bytes)) = some (some (.slice none 0 0), 1, 24) := by kernel_rfl
/-- append(v, x) at a row of rows: one slice more. -/
theorem append_row (w : World) (base : Nat) (v : Value) (xs : List Value) (hr : Row w base 23 v xs) (a : Addr) (u : Value) (hu : w.cell? a = some u) (h1 : u.oneCell' = true) (hlim : xs.length ≤ 1048577) (hbase : base ≤ w.heap.size) :
    ∃ v' w', (Builtin.append_ #[73, 73] 73 #[v, .slice (some a) 1 1]).run Try.prog w = .ok v' w' ∧ Row w' base 23 v' (xs ++ [u]) ∧ w.grownBy w' v.ownBlock ∧ (v'.ownBlock = v.ownBlock ∨ ∃ b, v'.ownBlock = some b ∧ w.heap.size ≤ b) := by
  obtain ⟨i23, hi, hz, hs, hb⟩ := info_parts info23
  have h := run_append (P := Try.prog) w base 73 73 23 i23 (.slice none 0 0) 24 Try.underlying73 hi hz hs hb rfl v xs hr (some a) 1 [u] (fun _ => ⟨a, rfl, fun j y hj => by
    cases j with
    | zero =>
      have e0 : a.add 0 = a := by unfold Addr.add; simp
      rw [e0, hu]; simpa using hj
    | succ j => simp at hj⟩) (fun y hy => by simp at hy; rw [hy]; exact h1) (by simp; omega) (by simp; omega) hbase
  exact h
/-- The row's slice is turned into one with one payload more. -/
theorem Sg.put {w0 w w1 : World} {sg gd : Nat} {vr vd v1 : Value} {room : Int} {bs : List Int} {safe : Nat} {ys : List Value} (h : Sg w0 w sg gd vr vd room bs safe) (hg : w.grownBy w1 vr.ownBlock) (hr : Row w1 w0.heap.size 23 v1 ys) (hy : ys.length ≤ bs.length) (h1 : ∀ u ∈ ys, u.oneCell' = true)
    (hat : v1.ownBlock = vr.ownBlock ∨ ∃ b, v1.ownBlock = some b ∧ w.heap.size ≤ b) : Sg w0 (w1.setCell ⟨sg, 1, none⟩ v1) sg gd v1 vd room bs safe ∧ Stp w (w1.setCell ⟨sg, 1, none⟩ v1) (SS sg gd vr vd) (SS sg gd v1 vd) := by
  obtain ⟨t, hb⟩ := h.blk
  obtain ⟨xs, hrow, _, _⟩ := h.row
  have hvr : ∀ k, vr.ownBlock = some k → ∃ cur, w.heap[k]? = some (.cells cur 23 (0, 0)) := fun k hk => (hrow.lt k hk).2.2
  have hk : ∀ (k : Nat) (cs : Array Value) (ty : TypeId), w.heap[k]? = some (.cells cs ty (0, 0)) → ty ≠ 23 → w1.heap[k]? = w.heap[k]? := fun k cs ty hc ht => hg.block k (Array.getElem?_eq_some_iff.1 hc).1 (fun e => by
    obtain ⟨cur, hcur⟩ := hvr k e.symm
    exact blk_ne hc hcur ht rfl)
  have hk2 : ∀ (k : Nat) (cs : Array Value) (ty : TypeId), w.heap[k]? = some (.cells cs ty (0, 0)) → ty ≠ 23 → k ≠ sg → (w1.setCell ⟨sg, 1, none⟩ v1).heap[k]? = w.heap[k]? := fun k cs ty hc ht hn => (set_other _ hn).trans (hk k cs ty hc ht)
  have D := h.disk
  have hbl : Below w0.heap.size w0 w1 := D.below.grown hg D.below.size (fun k e => (hrow.lt k e).1)
  have hb1 := (hk sg _ _ hb (by decide)).trans hb
  have hd : ∀ k, vd.ownBlock = some k → (w1.setCell ⟨sg, 1, none⟩ v1).heap[k]? = w.heap[k]? := fun k e => by
    obtain ⟨_, _, cur, hc⟩ := D.row.lt k e
    exact hk2 k _ _ hc (by decide) (blk_ne hc hb (by decide))
  have hsz := hg.size
  refine ⟨⟨⟨below_set hbl h.low, D.kg, (hk2 gd _ _ D.blk (by decide) (blk_ne D.blk hb (by decide))).trans D.blk, D.row.move hd, D.room1, D.fit, D.sf, D.byte⟩, h.low, ⟨t, heap_setCell_same w1 sg 1 _ 75 v1 hb1⟩, ⟨ys, hr.move fun k e => ?_, hy, h1⟩⟩, ⟨by simpa using hsz, fun k hlt hs => ?_, fun k e => ?_⟩⟩
  · obtain ⟨_, _, cur, hc⟩ := hr.lt k e
    exact set_other _ (blk_ne hc hb1 (by decide))
  · exact (set_other _ (fun e => hs (.inr (.inr (.inl e))))).trans (hg.block k hlt (fun e => hs (.inr (.inr (.inr e)))))
  · rcases e with e | e | e | e
    · exact .inl (.inl e)
    · exact .inl (.inr (.inl e))
    · exact .inl (.inr (.inr (.inl e)))
    · rcases hat with q | ⟨b, q, hb⟩
      · exact .inl (.inr (.inr (.inr (e.trans q))))
      · rw [q] at e; injection e with e; exact .inr (by omega)
set_option maxRecDepth 1000000 in
set_option maxHeartbeats 8000000 in
theorem sput_calls {w0 w : World} {sg gd : Nat} {vr vd : Value} {room : Int} {bs : List Int} {safe : Nat} (h : Sg w0 w sg gd vr vd room bs safe) (A : Option Addr) (c : Nat) (l : List Int) (hA : Kd.F (Kd.int .u8) w (fun k => ¬ SS sg gd vr vd k) A l.length l) (hc : l.length ≤ c) (hby : ∀ x ∈ l, 0 ≤ x ∧ x ≤ 255) (hl : l.length ≤ 4096) (hfit : ((frameF l).length : Int) ≤ room - bs.length) :
    Calls Try.prog 36 #[.pointer (some ⟨sg, 0, none⟩), .slice A l.length c] w fun e w' => e = .returned (.int .i64 0) ∧ ∃ vr' vd', Sg w0 w' sg gd vr' vd' room (bs ++ frameF l) safe ∧ Stp w w' (SS sg gd vr vd) (SS sg gd vr' vd') := by
  obtain ⟨t, hb⟩ := h.blk
  have c0 := (blk_cell hb 0).trans rfl
  have hm := meth_append
  have hC := Kd.F_now hA
  obtain ⟨xs, hxr0, hxl0, hx1⟩ := h.row
  have HS := Lib.hid h; have HA := Lib.hid hA; have HX := Lib.hid (And.intro hxr0 (And.intro hxl0 hx1)); have HBy := Lib.hid hby; have HFit := Lib.hid hfit
  obtain ⟨N, hN⟩ : ∃ N, N = l.length := ⟨_, rfl⟩
  have HN := Lib.hid hN
  have hfr := PSlotNobody.frame_ok A c l w hC hc hby hl
  rw [← hN] at hfr hl ⊢
  clear h hb hA hC hby hfit hN hc hxr0 hxl0 hx1
  go_enter Try.func36, Try.ntmps36
  go_wp2_with fail
  refine hfr.mono ?_
  rintro e w1 ⟨v1, rfl, hR1, hb1⟩
  obtain ⟨A1, c1, rfl⟩ := Kd.R_slice hR1
  obtain ⟨_, hc1, hC1⟩ := Kd.R_reads' hR1
  have hS1 := HS.out.below hb1
  have hap := append_ok hS1.disk A1 c1 (frameF l) hC1 (frameF_bytes l HBy.out (by have := HN.out; omega)) HFit.out
  obtain ⟨t1, hbk1⟩ := hS1.blk
  have b0 := (blk_cell hbk1 0).trans rfl
  have HB1 := Lib.hid hb1; have HS1 := Lib.hid hS1
  clear hfr hR1 hb1 hS1 hbk1 c0 hC1
  go_wp2_with fail
  refine hap.mono ?_
  rintro e w2 ⟨rfl, vd2, D2, F2⟩
  have hS2 := HS1.out.turn D2 F2 (by rw [List.length_append]; omega)
  have hst2 := (Stp.of_below (SS sg gd vr vd) HB1.out).trans (fr_stp (sg := sg) (vr := vr) F2)
  obtain ⟨t2, hbk2⟩ := hS2.blk
  have d1 : w2.cell? ⟨sg, 1, none⟩ = some vr := (blk_cell hbk2 1).trans rfl
  have hsg2 := (Array.getElem?_eq_some_iff.1 hbk2).1
  have hC2 : (Kd.int .u8).C w2 A l.length l := HA.out w2 fun k hk hlt => hst2.keep k hlt hk
  have hbw : Below w2.heap.size w2 ((w2.alloc (.cells #[] 5)).drew) := ((Below.refl w2.heap.size w2).alloc (Nat.le_refl _) (.cells #[] 5)).drew
  obtain ⟨A3, c3, w3, hrun1, hrow3, hgr3, _⟩ := append_u8 ((w2.alloc (.cells #[] 5)).drew) w2.heap.size _ [] ((empty_row w2 w2.heap.size (Nat.le_refl _)).below (Below.refl _ _).drew) A c l (Kd.C_below hC2 hbw) (by simp; have := HN.out; omega) (by simp)
  simp only [List.length_nil, Nat.zero_add, List.nil_append] at hrun1 hrow3 hgr3
  have hb23 : Below w2.heap.size w2 w3 := hbw.grown hgr3 (by simp) (fun k hk => by
    have hk' : k = w2.heap.size := by simpa [Value.ownBlock] using hk.symm
    omega)
  have hS3 := hS2.below hb23
  obtain ⟨hxr0, hxl, hx1⟩ := HX.out
  have hxr := (HS1.out.row_turn F2 (hxr0.below HB1.out)).below hb23
  have hbx := (Below.refl w3.heap.size w3).alloc (Nat.le_refl _) (.cells #[.slice A3 l.length c3] 23)
  have hS4 := hS3.below hbx
  have hblen : bs.length + (frameF l).length ≤ 1048576 := by have := HS.out.disk.room1; have := HFit.out; omega
  have hfl := frameF_len l
  have hxl' : xs.length + 1 ≤ (bs ++ frameF l).length := by rw [List.length_append]; omega
  obtain ⟨v5, w5, hrun2, hrow5, hgr5, hat5⟩ := append_row (w3.alloc (.cells #[.slice A3 l.length c3] 23)) w0.heap.size vr xs (hxr.below hbx) ⟨w3.heap.size, 0, none⟩ (.slice A3 l.length c3) ((blk_cell (heap_alloc_new w3 _) 0).trans rfl) rfl (by rw [List.length_append] at hxl'; omega) hS4.disk.below.size
  have hput := hS4.put hgr5 hrow5 (by rw [List.length_append, List.length_singleton]; exact hxl') (fun u hu => by
    rcases List.mem_append.1 hu with hu | hu
    · exact hx1 u hu
    · simp at hu; rw [hu]; rfl) hat5
  have hst := (hst2.trans ((Stp.of_below _ hb23).trans (Stp.of_below _ hbx))).trans hput.2
  obtain ⟨t3, hbk3⟩ := hS3.blk
  have e1 : w3.cell? ⟨sg, 1, none⟩ = some vr := (blk_cell hbk3 1).trans rfl
  have e2 : (w3.alloc (.cells #[.slice A3 N c3] 23)).cell? ⟨sg, 1, none⟩ = some vr := by
    obtain ⟨t4, hbk4⟩ := hS4.blk
    have := (blk_cell hbk4 1).trans rfl
    rw [← HN.out] at this
    exact this
  have hsg5 : ∃ u, w5.cell? ⟨sg, 1, none⟩ = some u ∧ w5.frozen? ⟨sg, 1, none⟩ = false := by
    obtain ⟨t4, hbk4⟩ := hS4.blk
    have hb5 := (hgr5.block sg (Array.getElem?_eq_some_iff.1 hbk4).1 (fun e => by
      obtain ⟨_, _, cur, hcur⟩ := (hxr.below hbx).lt sg e.symm
      exact blk_ne hbk4 hcur (by decide) rfl)).trans hbk4
    exact ⟨_, (blk_cell hb5 1).trans rfl, blk_frozen hb5 1⟩
  obtain ⟨u5, g1, f1⟩ := hsg5
  have hsl5 : ∃ A5 n5 c5, v5 = .slice A5 n5 c5 := by
    obtain ⟨A5, c5, h5, _⟩ := hrow5.slice
    exact ⟨_, _, _, h5⟩
  obtain ⟨A5, n5, c5, rfl⟩ := hsl5
  have HF := Lib.hid (And.intro hput.1 hst)
  have hNl := HN.out
  rw [← hNl] at hrun1 hrun2
  obtain ⟨xA, xc, hvx, _, _⟩ := hxr.slice
  have HRun1 := Lib.hid hrun1; have HRun2 := Lib.hid hrun2
  clear hap D2 F2 hS2 hst2 hbk2 hxr0 hC2 hbw hrun1 hrow3 hgr3 hb23 hS3 hxr hxl hx1 hbx hS4 hblen hfl hxl' hrun2 hrow5 hgr5 hat5 hput hst hbk3 hNl b0 hm
  subst hvx
  go_wp2_with fail
  go_region_law (first
    | (refine step_append_run (by rfl) _ _ 23 (by rfl) _ _ _ (by rfl) (by rfl) HRun1.out ?_)
    | (refine step_append_run (by rfl) _ _ 73 (by rfl) _ _ _ (by rfl) (by rfl) HRun2.out ?_))
  all_goals
    go_wp2
    go_ret
    exact ⟨rfl, _, _, HF.out⟩
end Go.Proofs.Ytdfpcldoakbehaa.Slot
