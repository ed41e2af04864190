import Derived.Test.YtiinelmednbpmaaGreatPWritex1
import Derived.Test.YtiinelmednbpmaaGreatMState
import Derived.Deep.RegionLaw
import Derived.Deep.RegionHeld3
import Derived.Maps.RangeWalk
import Derived.Lib.MinMax
import Derived.Shelf.SlicesE.Kit
import Derived.Sort.Grow
import Derived.Shelf.SlSortCmp.NoneTotal
import Derived.Shelf.Lay
import Derived.Ground.SlsfProg
import Derived.Sort.OwnSorted
import Derived.StillTailTactics
import Derived.Laws.BitsLemmas
import Derived.Lib.Bytes
/- Payloads and frames: what the program lays down. -/
namespace Go.Proofs.YtiinelmednbpmaaGreat.PWrite
open Go.RowKit Go.Proofs.YtiinelmednbpmaaGreat.Crc Go.Proofs.YtiinelmednbpmaaGreat.Pack Go.Proofs.YtiinelmednbpmaaGreatW.PrintWords
theorem frame_eq (k : Nat) (b : List Int) (hb : ∀ x ∈ b, 0 ≤ x ∧ x ≤ 255) (hl : b.length ≤ 4096) : crc_Frame.f (k + 2) b = some (frameF b, 0) := by
  have hw : IntKind.u64.wrap (b.length : Int) = b.length := by rw [IntKind.wrap_u64]; omega
  have hu : pack_Uint.f (k + 2) [] (b.length : Int) = some (uintB b.length) := by
    unfold pack_Uint.f
    simp only [Option.bind_some]
    rw [if_pos (by simp), pack_Uint.l0]
    by_cases h : b.length < 128
    · rw [if_neg (by omega), if_pos (by simp)]
      unfold uintB
      rw [if_pos h]
      have e : (b.length : Int) % 256 = b.length := by omega
      rw [e]; rfl
    · rw [if_pos (by omega), if_pos (by simp), pack_Uint.l0, if_neg (by omega), if_pos (by simp), or128 _]
      unfold uintB
      rw [if_neg h]
      have e : (b.length : Int) / 128 % 256 = (b.length : Int) / 128 := by omega
      rw [e]; rfl
  have hp : pack_Bytes.f (k + 2) [] b = some (uintB b.length ++ b) := by
    unfold pack_Bytes.f
    rw [hw, hu]
    simp only [Option.bind_some]
    rw [if_pos (by rw [uintB_len]; split <;> omega)]
  have hs : crc_Sum.f b = some (sumOf b) := by
    unfold crc_Sum.f
    rw [if_pos ⟨bytesB_iff.2 hb, by omega⟩]
  have hf : crc_four.f (sumOf b) = some (fourL (sumOf b)) := by
    unfold crc_four.f fourL
    obtain ⟨h0, h1⟩ := sumOf_rng b
    have e : sumOf b / 16777216 % 256 = sumOf b / 16777216 := by omega
    rw [e]
  unfold crc_Frame.f
  rw [if_neg (by omega), hp, Option.bind_some, hs, Option.bind_some, hf, Option.bind_some, if_pos (by rw [List.length_append, uintB_len, fourL_len]; split <;> omega)]
  rfl
theorem frame_no (k : Nat) (b : List Int) (hl : 4096 < b.length) : crc_Frame.f k b = some ([], 2) := by
  unfold crc_Frame.f
  rw [if_pos (by omega)]
theorem frame_ok (A : Option Addr) (c : Nat) (l : List Int) (w : World) (hC : (Kd.int .u8).C w A l.length l) (hc : l.length ≤ c) (hb : ∀ x ∈ l, 0 ≤ x ∧ x ≤ 255) (hl : l.length ≤ 4096) :
    Calls Tryz.prog 100 #[.slice A l.length c] w fun e w' => ∃ v, e = .returned (.tuple #[v, .int .i64 0]) ∧ (Kd.int .u8).R 5 w' w.heap.size (fun _ => True) v (frameF l) ∧ Below w.heap.size w w' :=
  crc_Frame.calls 2 A c l (frameF l) 0 w hC hc (frame_eq 0 l hb hl)
end Go.Proofs.YtiinelmednbpmaaGreat.PWrite
/- The walk of Put: a payload behind the others. -/
namespace Go.Proofs.YtiinelmednbpmaaGreat.Slot
open Go.RowKit Go.Maps Go.Proofs.YtiinelmednbpmaaGreatW.PrintWords Go.Proofs.YtiinelmednbpmaaGreatW.PrintMore Go.Proofs.YtiinelmednbpmaaGreat.Row Go.Proofs.YtiinelmednbpmaaGreat.Cut Go.Proofs.YtiinelmednbpmaaGreat.DiskM Go.Proofs.YtiinelmednbpmaaGreat.Quor
open Go.Proofs.YtiinelmednbpmaaGreat.Pack (append_u8 empty_row info5)
open Go.Proofs.YtiinelmednbpmaaGreat.Crc (frameF frameF_len frameF_bytes uintB_len)
section
variable {P : Program} {ops : Array Oper} {o : Oper} {a : Act} {Q : Exit → Act → World → Prop} {Kc : Act → World → Prop}
theorem step_append_run {w w' : World} (hw : Region.wanted o (yielded ops a.tmps) = true) (s x : Operand) (t : TypeId)
    (ho : o.op = .call { callee := .builtin .append, args := #[s, x], argTypes := #[t, t] }) (vs vx v' : Value) (hs : a.eval s = vs) (hx : a.eval x = vx) (hr : (Builtin.append_ #[t, t] o.type #[vs, vx]).run P w = .ok v' w')
    (h : Kc (a.put o.dst v') w') : if Region.wanted o (yielded ops a.tmps) = true then Oper.wp P o a w Kc Q else Kc (a.put o.dst undef) w := by
  rw [if_pos hw]
  unfold Oper.wp execOp
  simp only [ho, resolve, invoke, builtin, Sem.run_bind, Sem.run_pure, Result.andThen_ok, List.map_toArray, List.map_cons, List.map_nil, hs, hx, hr]
  exact h
end
theorem info23 : (Tryz.prog.info? 32).map (fun i => (i.zero, i.size, i.bytes)) = some (some (.slice none 0 0), 1, 24) := by kernel_rfl
/-- append(v, x) at a row of rows: one slice more. -/
theorem append_row (w : World) (base : Nat) (v : Value) (xs : List Value) (hr : Row w base 32 v xs) (a : Addr) (u : Value) (hu : w.cell? a = some u) (h1 : u.oneCell' = true) (hlim : xs.length ≤ 1048577) (hbase : base ≤ w.heap.size) :
    ∃ v' w', (Builtin.append_ #[22, 22] 22 #[v, .slice (some a) 1 1]).run Tryz.prog w = .ok v' w' ∧ Row w' base 32 v' (xs ++ [u]) ∧ w.grownBy w' v.ownBlock ∧ (v'.ownBlock = v.ownBlock ∨ ∃ b, v'.ownBlock = some b ∧ w.heap.size ≤ b) := by
  obtain ⟨i23, hi, hz, hs, hb⟩ := info_parts info23
  have h := run_append (P := Tryz.prog) w base 22 22 32 i23 (.slice none 0 0) 24 Tryz.underlying22 hi hz hs hb rfl v xs hr (some a) 1 [u] (fun _ => ⟨a, rfl, fun j y hj => by
    cases j with
    | zero =>
      have e0 : a.add 0 = a := by unfold Addr.add; simp
      rw [e0, hu]; simpa using hj
    | succ j => simp at hj⟩) (fun y hy => by simp at hy; rw [hy]; exact h1) (by simp; omega) (by simp; omega) hbase
  exact h
/-- The row's slice is turned into one with one payload more. -/
theorem Sg.put {w0 w w1 : World} {sg gd : Nat} {vr vd v1 : Value} {room : Int} {bs : List Int} {safe : Nat} {ys : List Value} (h : Sg w0 w sg gd vr vd room bs safe) (hg : w.grownBy w1 vr.ownBlock) (hr : Row w1 w0.heap.size 32 v1 ys) (hy : ys.length ≤ bs.length) (h1 : ∀ u ∈ ys, u.oneCell' = true)
    (hat : v1.ownBlock = vr.ownBlock ∨ ∃ b, v1.ownBlock = some b ∧ w.heap.size ≤ b) : Sg w0 (w1.setCell ⟨sg, 1, none⟩ v1) sg gd v1 vd room bs safe ∧ Stp w (w1.setCell ⟨sg, 1, none⟩ v1) (SS sg gd vr vd) (SS sg gd v1 vd) := by
  obtain ⟨t, hb⟩ := h.blk
  obtain ⟨xs, hrow, _, _⟩ := h.row
  have hvr : ∀ k, vr.ownBlock = some k → ∃ cur, w.heap[k]? = some (.cells cur 32 (0, 0)) := fun k hk => (hrow.lt k hk).2.2
  have hk : ∀ (k : Nat) (cs : Array Value) (ty : TypeId), w.heap[k]? = some (.cells cs ty (0, 0)) → ty ≠ 32 → w1.heap[k]? = w.heap[k]? := fun k cs ty hc ht => hg.block k (Array.getElem?_eq_some_iff.1 hc).1 (fun e => by
    obtain ⟨cur, hcur⟩ := hvr k e.symm
    exact blk_ne hc hcur ht rfl)
  have hk2 : ∀ (k : Nat) (cs : Array Value) (ty : TypeId), w.heap[k]? = some (.cells cs ty (0, 0)) → ty ≠ 32 → k ≠ sg → (w1.setCell ⟨sg, 1, none⟩ v1).heap[k]? = w.heap[k]? := fun k cs ty hc ht hn => (set_other _ hn).trans (hk k cs ty hc ht)
  have D := h.disk
  have hbl : Below w0.heap.size w0 w1 := D.below.grown hg D.below.size (fun k e => (hrow.lt k e).1)
  have hb1 := (hk sg _ _ hb (by decide)).trans hb
  have hd : ∀ k, vd.ownBlock = some k → (w1.setCell ⟨sg, 1, none⟩ v1).heap[k]? = w.heap[k]? := fun k e => by
    obtain ⟨_, _, cur, hc⟩ := D.row.lt k e
    exact hk2 k _ _ hc (by decide) (blk_ne hc hb (by decide))
  have hsz := hg.size
  refine ⟨⟨⟨below_set hbl h.low, D.kg, (hk2 gd _ _ D.blk (by decide) (blk_ne D.blk hb (by decide))).trans D.blk, D.row.move hd, D.room1, D.fit, D.sf, D.byte⟩, h.low, ⟨t, heap_setCell_same w1 sg 1 _ 139 v1 hb1⟩, ⟨ys, hr.move fun k e => ?_, hy, h1⟩⟩, ⟨by simpa using hsz, fun k hlt hs => ?_, fun k e => ?_⟩⟩
  · obtain ⟨_, _, cur, hc⟩ := hr.lt k e
    exact set_other _ (blk_ne hc hb1 (by decide))
  · exact (set_other _ (fun e => hs (.inr (.inr (.inl e))))).trans (hg.block k hlt (fun e => hs (.inr (.inr (.inr e)))))
  · rcases e with e | e | e | e
    · exact .inl (.inl e)
    · exact .inl (.inr (.inl e))
    · exact .inl (.inr (.inr (.inl e)))
    · rcases hat with q | ⟨b, q, hb⟩
      · exact .inl (.inr (.inr (.inr (e.trans q))))
      · rw [q] at e; injection e with e; exact .inr (by omega)
set_option maxRecDepth 1000000 in
set_option maxHeartbeats 8000000 in
theorem sput_calls {w0 w : World} {sg gd : Nat} {vr vd : Value} {room : Int} {bs : List Int} {safe : Nat} (h : Sg w0 w sg gd vr vd room bs safe) (A : Option Addr) (c : Nat) (l : List Int) (hA : Kd.F (Kd.int .u8) w (fun k => ¬ SS sg gd vr vd k) A l.length l) (hc : l.length ≤ c) (hby : ∀ x ∈ l, 0 ≤ x ∧ x ≤ 255) (hl : l.length ≤ 4096) (hfit : ((frameF l).length : Int) ≤ room - bs.length) :
    Calls Tryz.prog 84 #[.pointer (some ⟨sg, 0, none⟩), .slice A l.length c] w fun e w' => e = .returned (.int .i64 0) ∧ ∃ vr' vd', Sg w0 w' sg gd vr' vd' room (bs ++ frameF l) safe ∧ Stp w w' (SS sg gd vr vd) (SS sg gd vr' vd') := by
  obtain ⟨t, hb⟩ := h.blk
  have c0 := (blk_cell hb 0).trans rfl
  have hm := meth_append
  have hC := Kd.F_now hA
  obtain ⟨xs, hxr0, hxl0, hx1⟩ := h.row
  have HS := Lib.hid h; have HA := Lib.hid hA; have HX := Lib.hid (And.intro hxr0 (And.intro hxl0 hx1)); have HBy := Lib.hid hby; have HFit := Lib.hid hfit
  obtain ⟨N, hN⟩ : ∃ N, N = l.length := ⟨_, rfl⟩
  have HN := Lib.hid hN
  have hfr := PWrite.frame_ok A c l w hC hc hby hl
  rw [← hN] at hfr hl ⊢
  clear h hb hA hC hby hfit hN hc hxr0 hxl0 hx1
  go_enter Tryz.func84, Tryz.ntmps84
  go_wp2_with fail
  refine hfr.mono ?_
  rintro e w1 ⟨v1, rfl, hR1, hb1⟩
  obtain ⟨A1, c1, rfl⟩ := Kd.R_slice hR1
  obtain ⟨_, hc1, hC1⟩ := Kd.R_reads' hR1
  have hS1 := HS.out.below hb1
  have hap := append_ok hS1.disk A1 c1 (frameF l) hC1 (frameF_bytes l HBy.out (by have := HN.out; omega)) HFit.out
  obtain ⟨t1, hbk1⟩ := hS1.blk
  have b0 := (blk_cell hbk1 0).trans rfl
  have HB1 := Lib.hid hb1; have HS1 := Lib.hid hS1
  clear hfr hR1 hb1 hS1 hbk1 c0 hC1
  go_wp2_with fail
  refine hap.mono ?_
  rintro e w2 ⟨rfl, vd2, D2, F2⟩
  have hS2 := HS1.out.turn D2 F2 (by rw [List.length_append]; omega)
  have hst2 := (Stp.of_below (SS sg gd vr vd) HB1.out).trans (fr_stp (sg := sg) (vr := vr) F2)
  obtain ⟨t2, hbk2⟩ := hS2.blk
  have d1 : w2.cell? ⟨sg, 1, none⟩ = some vr := (blk_cell hbk2 1).trans rfl
  have hsg2 := (Array.getElem?_eq_some_iff.1 hbk2).1
  have hC2 : (Kd.int .u8).C w2 A l.length l := HA.out w2 fun k hk hlt => hst2.keep k hlt hk
  have hbw : Below w2.heap.size w2 ((w2.alloc (.cells #[] 5)).drew) := ((Below.refl w2.heap.size w2).alloc (Nat.le_refl _) (.cells #[] 5)).drew
  obtain ⟨A3, c3, w3, hrun1, hrow3, hgr3, _⟩ := append_u8 ((w2.alloc (.cells #[] 5)).drew) w2.heap.size _ [] ((empty_row w2 w2.heap.size (Nat.le_refl _)).below (Below.refl _ _).drew) A c l (Kd.C_below hC2 hbw) (by simp; have := HN.out; omega) (by simp)
  simp only [List.length_nil, Nat.zero_add, List.nil_append] at hrun1 hrow3 hgr3
  have hb23 : Below w2.heap.size w2 w3 := hbw.grown hgr3 (by simp) (fun k hk => by
    have hk' : k = w2.heap.size := by simpa [Value.ownBlock] using hk.symm
    omega)
  have hS3 := hS2.below hb23
  obtain ⟨hxr0, hxl, hx1⟩ := HX.out
  have hxr := (HS1.out.row_turn F2 (hxr0.below HB1.out)).below hb23
  have hbx := (Below.refl w3.heap.size w3).alloc (Nat.le_refl _) (.cells #[.slice A3 l.length c3] 32)
  have hS4 := hS3.below hbx
  have hblen : bs.length + (frameF l).length ≤ 1048576 := by have := HS.out.disk.room1; have := HFit.out; omega
  have hfl := frameF_len l
  have hxl' : xs.length + 1 ≤ (bs ++ frameF l).length := by rw [List.length_append]; omega
  obtain ⟨v5, w5, hrun2, hrow5, hgr5, hat5⟩ := append_row (w3.alloc (.cells #[.slice A3 l.length c3] 32)) w0.heap.size vr xs (hxr.below hbx) ⟨w3.heap.size, 0, none⟩ (.slice A3 l.length c3) ((blk_cell (heap_alloc_new w3 _) 0).trans rfl) rfl (by rw [List.length_append] at hxl'; omega) hS4.disk.below.size
  have hput := hS4.put hgr5 hrow5 (by rw [List.length_append, List.length_singleton]; exact hxl') (fun u hu => by
    rcases List.mem_append.1 hu with hu | hu
    · exact hx1 u hu
    · simp at hu; rw [hu]; rfl) hat5
  have hst := (hst2.trans ((Stp.of_below _ hb23).trans (Stp.of_below _ hbx))).trans hput.2
  obtain ⟨t3, hbk3⟩ := hS3.blk
  have e1 : w3.cell? ⟨sg, 1, none⟩ = some vr := (blk_cell hbk3 1).trans rfl
  have e2 : (w3.alloc (.cells #[.slice A3 N c3] 32)).cell? ⟨sg, 1, none⟩ = some vr := by
    obtain ⟨t4, hbk4⟩ := hS4.blk
    have := (blk_cell hbk4 1).trans rfl
    rw [← HN.out] at this
    exact this
  have hsg5 : ∃ u, w5.cell? ⟨sg, 1, none⟩ = some u ∧ w5.frozen? ⟨sg, 1, none⟩ = false := by
    obtain ⟨t4, hbk4⟩ := hS4.blk
    have hb5 := (hgr5.block sg (Array.getElem?_eq_some_iff.1 hbk4).1 (fun e => by
      obtain ⟨_, _, cur, hcur⟩ := (hxr.below hbx).lt sg e.symm
      exact blk_ne hbk4 hcur (by decide) rfl)).trans hbk4
    exact ⟨_, (blk_cell hb5 1).trans rfl, blk_frozen hb5 1⟩
  obtain ⟨u5, g1, f1⟩ := hsg5
  have hsl5 : ∃ A5 n5 c5, v5 = .slice A5 n5 c5 := by
    obtain ⟨A5, c5, h5, _⟩ := hrow5.slice
    exact ⟨_, _, _, h5⟩
  obtain ⟨A5, n5, c5, rfl⟩ := hsl5
  have HF := Lib.hid (And.intro hput.1 hst)
  have hNl := HN.out
  rw [← hNl] at hrun1 hrun2
  obtain ⟨xA, xc, hvx, _, _⟩ := hxr.slice
  have HRun1 := Lib.hid hrun1; have HRun2 := Lib.hid hrun2
  clear hap D2 F2 hS2 hst2 hbk2 hxr0 hC2 hbw hrun1 hrow3 hgr3 hb23 hS3 hxr hxl hx1 hbx hS4 hblen hfl hxl' hrun2 hrow5 hgr5 hat5 hput hst hbk3 hNl b0 hm
  subst hvx
  go_wp2_with fail
  go_region_law (first
    | (refine step_append_run (by rfl) _ _ 32 (by rfl) _ _ _ (by rfl) (by rfl) HRun1.out ?_)
    | (refine step_append_run (by rfl) _ _ 22 (by rfl) _ _ _ (by rfl) (by rfl) HRun2.out ?_))
  all_goals
    go_wp2
    go_ret
    exact ⟨rfl, _, _, HF.out⟩
end Go.Proofs.YtiinelmednbpmaaGreat.Slot
/- The walks of seg.Open, Len, Get. -/
namespace Go.Proofs.YtiinelmednbpmaaGreat.Slot
open Go.RowKit Go.Maps Go.Proofs.YtiinelmednbpmaaGreatW.PrintWords Go.Proofs.YtiinelmednbpmaaGreatW.PrintMore Go.Proofs.YtiinelmednbpmaaGreat.Row Go.Proofs.YtiinelmednbpmaaGreat.Cut Go.Proofs.YtiinelmednbpmaaGreat.DiskM Go.Proofs.YtiinelmednbpmaaGreat.Quor
open Go.Proofs.YtiinelmednbpmaaGreat.Pack (append_u8 empty_row info5)
open Go.Proofs.YtiinelmednbpmaaGreat.Crc (scanF scanGo openF openF_ok scan_calls ScanP KB scanF_more)
theorem scanGo_len : ∀ (k : Nat) (l : List Int) (p : Nat), (scanGo k l p).1.length + p ≤ (scanGo k l p).2
  | 0, l, p => by simp [scanGo]
  | k + 1, l, p => by
    unfold scanGo
    by_cases h : p < l.length
    · rw [if_pos h]
      by_cases h2 : (openF (l.drop p)).2.2 ≠ 0
      · rw [if_pos h2]; simp
      · rw [if_neg h2]
        have ho := openF_ok (l.drop p) (by simpa using h2)
        have ih := scanGo_len k l (p + (openF (l.drop p)).2.1.toNat)
        simp only [List.length_cons]
        omega
    · rw [if_neg h]; simp
theorem scan_len (l : List Int) : (scanF l).1.length ≤ (scanF l).2 := by
  have := scanGo_len (l.length + 1) l 0
  unfold scanF; omega
theorem row_of_own {w : World} {base n : Nat} {e : TypeId} {v : Value} {xs : List Value} (h : w.ownsRow base e 1 v n xs) : Row w base e v xs := by
  obtain ⟨hl, h⟩ := h
  rcases h with ⟨rfl, h0⟩ | ⟨g, cap, cur, rfl, hb, hc, h1, h2, h3, h4⟩
  · exact .inl ⟨rfl, List.length_eq_zero_iff.1 (by omega)⟩
  · exact .inr ⟨g, cap, cur, by rw [hl, Nat.mul_one], hb, hc, by omega, by omega, by rw [h3]; unfold maxLen at h2; omega, by rw [hl]; exact h4⟩
theorem ones_of_reps {w : World} {base : Nat} {ok : Nat → Prop} {xs : List (List Int)} {inner : List Value} (h : Reps (KB.M w base ok) 1 xs inner) : ∀ u ∈ inner, u.oneCell' = true := by
  intro u hu
  obtain ⟨j, hj, rfl⟩ := List.getElem_of_mem hu
  have hl : inner.length = xs.length := by have := h.1; omega
  have h2 := h.2 j _ (List.getElem?_eq_getElem (by omega))
  have h3 := KB.K_one (KB.K_of_M h2)
  refine h3 _ ?_
  have e : (inner.drop (j * 1)).take 1 = [inner[j]] := by rw [Nat.mul_one, List.drop_eq_getElem_cons hj]; rfl
  rw [e]
  exact List.mem_singleton.2 rfl
theorem _root_.Go.Proofs.YtiinelmednbpmaaGreat.DiskM.Dk.keep {w0 w w' : World} {gd : Nat} {vd : Value} {room : Int} {bs : List Int} {safe : Nat} (D : Dk w0 w gd vd room bs safe) (hb : Below w0.heap.size w0 w') (hk : ∀ k, k = gd ∨ some k = vd.ownBlock → w'.heap[k]? = w.heap[k]?) : Dk w0 w' gd vd room bs safe :=
  ⟨hb, D.kg, (hk _ (.inl rfl)).trans D.blk, D.row.move fun k e => hk k (.inr e.symm), D.room1, D.fit, D.sf, D.byte⟩
theorem _root_.Go.Proofs.YtiinelmednbpmaaGreat.DiskM.Dk.lt {w0 w : World} {gd : Nat} {vd : Value} {room : Int} {bs : List Int} {safe : Nat} (D : Dk w0 w gd vd room bs safe) {k : Nat} (hk : k = gd ∨ some k = vd.ownBlock) : k < w.heap.size := by
  rcases hk with rfl | e
  · exact (Array.getElem?_eq_some_iff.1 D.blk).1
  · exact (D.row.lt k e.symm).2.1
theorem _root_.Go.Proofs.YtiinelmednbpmaaGreat.DiskM.Fr.after_set {w w4 w6 : World} {gd : Nat} {vd vd' : Value} (h : Fr w4 w6 gd vd vd') (hb : Below w.heap.size w w4) (_hn : ∀ k, w.heap.size ≤ k → k ≠ gd ∧ some k ≠ vd.ownBlock) : Fr w w6 gd vd vd' := h.after hb
theorem own_len (A : Option Addr) (n n' c : Nat) : (Value.slice A n c).ownBlock = (Value.slice A n' c).ownBlock := by cases A <;> rfl
def SOpenP (w0 w : World) (gd : Nat) (vd : Value) (room : Int) (bs : List Int) (e : Ending) (w' : World) : Prop :=
  ∃ sg A c vd', e = .returned (.pointer (some ⟨sg, 0, none⟩)) ∧ w.heap.size ≤ sg ∧ (scanF bs).1.length ≤ c ∧ KB.C w' A (scanF bs).1.length (scanF bs).1 ∧
    Sg w0 w' sg gd (.slice A (scanF bs).1.length c) vd' room (bs.take (scanF bs).2) (bs.take (scanF bs).2).length ∧ Fr w w' gd vd vd' ∧ ∀ k, (Value.slice A (scanF bs).1.length c).ownBlock = some k → w.heap.size ≤ k
set_option maxRecDepth 1000000 in
set_option maxHeartbeats 8000000 in
theorem sopen_calls {w0 w : World} {gd : Nat} {vd : Value} {room : Int} {bs : List Int} {safe : Nat} (D : Dk w0 w gd vd room bs safe) :
    Calls Tryz.prog 49 #[.pointer (some ⟨gd, 0, none⟩)] w (SOpenP w0 w gd vd room bs) := by
  have hm1 := meth_bytes
  have hm2 := meth_cut
  have hm3 := meth_sync
  have hbl : (bs.length : Int) ≤ 1048576 := by have := D.fit; have := D.room1; omega
  have hb1 := (Below.refl w.heap.size w).alloc (Nat.le_refl _) (.cells #[.iface 64 (.pointer (some ⟨gd, 0, none⟩)), .slice none 0 0, .int .i64 0] 139)
  have hk1 := heap_alloc_new w (.cells #[.iface 64 (.pointer (some ⟨gd, 0, none⟩)), .slice none 0 0, .int .i64 0] 139)
  have hbc := bytes_calls (D.step hb1)
  have HD := Lib.hid D; have HB1 := Lib.hid hb1; have HK1 := Lib.hid hk1
  obtain ⟨N, hN⟩ : ∃ N, N = bs.length := ⟨_, rfl⟩
  have HN := Lib.hid hN
  rw [← hN] at hbl hbc
  clear D hb1 hk1 hN
  go_enter Tryz.func49, Tryz.ntmps49
  go_wp2_with fail
  refine hbc.mono ?_
  rintro e w2 ⟨gb, rfl, hr2, hb2⟩
  have hs2 : w.heap.size + 1 ≤ w2.heap.size := by have := hb2.size; simpa using this
  obtain ⟨Ab, cb, hvb, _, hCb⟩ := hr2.reads
  injection hvb with hAb hq1 hq2
  subst hAb
  clear hq1 hq2
  have hk2 := (hb2.block _ (by simp)).trans HK1.out
  have HB2 := Lib.hid (below_step HB1.out hb2); have HK2 := Lib.hid hk2
  have hsc := scan_calls (some ⟨gb, 0, none⟩) N N bs w2 HN.out.symm (Nat.le_refl _) (by omega) (by rw [HN.out]; exact hCb) HD.out.byte
  clear hr2 hb2 hk2 hCb hbc
  go_wp2_with fail
  refine hsc.mono ?_
  rintro e w3 ⟨v3, rfl, hS3, hb3⟩
  obtain ⟨A3, c3, hv3, hc3, _⟩ := Kd.S_reads hS3
  obtain ⟨_, hend⟩ := (scanF_more bs []).2
  have hsl := scan_len bs
  have hF3 := Kd.S_F (by rw [hv3] at hS3; exact Kd.S_bound hS3)
  obtain ⟨_, inner, hown, hreps⟩ := Kd.S_R hS3
  have hone := ones_of_reps hreps
  have hinl : inner.length = (scanF bs).1.length := by have := hreps.1; simpa [KB, Kd.slice] using this
  have hown0 : ∀ k, v3.ownBlock = some k → w2.heap.size ≤ k := fun k hk => ((row_of_own hown).lt k hk).1
  have hrow3 := row_low (row_of_own hown) (show w0.heap.size ≤ w2.heap.size from Nat.le_trans HD.out.below.size HB2.out.size)
  subst hv3
  have hk3 := (hb3.block _ (by omega)).trans HK2.out
  have HB3 := Lib.hid (below_step HB2.out hb3)
  have D3 := HD.out.step HB3.out
  have hs3 : w2.heap.size ≤ w3.heap.size := hb3.size
  obtain ⟨rows, hrows⟩ : ∃ rows, rows = (scanF bs).1 := ⟨_, rfl⟩
  obtain ⟨en, hen⟩ : ∃ en, en = (scanF bs).2 := ⟨_, rfl⟩
  rw [← hrows] at hF3 hinl hrow3 hsl hc3 ⊢
  rw [← hen] at hend hsl ⊢
  obtain ⟨rn, hrn⟩ : ∃ rn, rn = rows.length := ⟨_, rfl⟩
  rw [← hrn] at hrow3 ⊢
  have g0 := (blk_cell hk3 0).trans rfl
  have g1 := (blk_cell hk3 1).trans rfl
  have g2 := (blk_cell hk3 2).trans rfl
  have gf1 := blk_frozen hk3 1
  have gf2 := blk_frozen hk3 2
  have hk4 := heap_setCell_same _ w.heap.size 2 _ 139 (.int .i64 ((N : Int) - (en : Int))) (heap_setCell_same w3 w.heap.size 1 _ 139 (.slice A3 rn c3) hk3)
  have hb4 : Below w.heap.size w ((w3.setCell ⟨w.heap.size, 1, none⟩ (.slice A3 rn c3)).setCell ⟨w.heap.size, 2, none⟩ (.int .i64 ((N : Int) - (en : Int)))) := below_set (below_set HB3.out (Nat.le_refl _)) (Nat.le_refl _)
  have hfar : ∀ k, k ≠ w.heap.size → ((w3.setCell ⟨w.heap.size, 1, none⟩ (.slice A3 rn c3)).setCell ⟨w.heap.size, 2, none⟩ (.int .i64 ((N : Int) - (en : Int)))).heap[k]? = w3.heap[k]? := fun k hk => (set_other _ hk).trans (set_other _ hk)
  have D4 := D3.keep (w' := (w3.setCell ⟨w.heap.size, 1, none⟩ (.slice A3 rn c3)).setCell ⟨w.heap.size, 2, none⟩ (.int .i64 ((N : Int) - (en : Int)))) (below_step HD.out.below hb4) (fun k hk => hfar k (by have := HD.out.lt hk; omega))
  have hen2 : en ≤ bs.length := hend
  have hct := cut_ok D4 en hen2
  have HX := Lib.hid (And.intro hk4 (And.intro hb4 (And.intro hfar (And.intro hF3 (And.intro hrow3 hone)))))
  have HL := Lib.hid (And.intro hsl (And.intro hinl (And.intro hrows (And.intro hen hrn))))
  have HN' := HN.out
  clear hsc hS3 hb3 hown hreps hone hinl hrow3 hk3 D3 hrows hen hrn hk4 hb4 hfar D4 hF3 hsl
  have hen3 : (en : Int) ≤ (N : Int) := by omega
  clear HN'
  go_wp2_with fail
  refine hct.mono ?_
  rintro e w5 ⟨rfl, vd5, D5, F5⟩
  have hne : ∀ k, w.heap.size ≤ k → k ≠ gd ∧ some k ≠ vd.ownBlock := fun k hk => ⟨fun e => by have := HD.out.lt (k := k) (.inl e); omega, fun e => by have := HD.out.lt (k := k) (.inr e); omega⟩
  have hlt4 := (Array.getElem?_eq_some_iff.1 HX.out.1).1
  have hk5 := (F5.2.1 _ hlt4 (hne _ (Nat.le_refl _)).1 (hne _ (Nat.le_refl _)).2).trans HX.out.1
  have k0 := (blk_cell hk5 0).trans rfl
  have hsy := sync_calls D5
  have HF5 := Lib.hid F5; have HK5 := Lib.hid hk5; have HNe := Lib.hid hne
  clear hct D5 F5 hk5 g0 g1 g2 gf1 gf2 hne
  go_wp2_with fail
  refine hsy.mono ?_
  rintro e w6 ⟨rfl, D6, F6⟩
  have hF46 := HF5.out.trans F6
  have hFr := hF46.after_set (w := w) HX.out.2.1 HNe.out
  have h36 : ∀ k, w.heap.size < k → k < w3.heap.size → w6.heap[k]? = w3.heap[k]? := fun k hk hlt =>
    (hF46.2.1 k (by simpa using hlt) (HNe.out k (by omega)).1 (HNe.out k (by omega)).2).trans (HX.out.2.2.1 k (by omega))
  have hk6 := (hF46.2.1 _ hlt4 (HNe.out _ (Nat.le_refl _)).1 (HNe.out _ (Nat.le_refl _)).2).trans HX.out.1
  have HFin := Lib.hid (And.intro D6 (And.intro hFr (And.intro h36 hk6)))
  clear hsy D6 F6 hF46 hFr h36 hk6 k0 hlt4
  go_wp2_with fail
  go_ret
  obtain ⟨hsl, hinl, hrows, hen, hrn⟩ := HL.out
  obtain ⟨_, _, _, hF3, hrow3, hone⟩ := HX.out
  obtain ⟨D6, hFr, h36, hk6⟩ := HFin.out
  have hlen : (bs.take en).length = en := by rw [List.length_take]; omega
  refine ⟨w.heap.size, A3, c3, vd5, rfl, Nat.le_refl _, by rw [← hrows]; exact hc3, ?_, ?_, hFr, fun k e => ?_⟩
  · rw [← hrows]
    exact hF3 w6 fun k hk hlt => h36 k (by have := hk.2.1; omega) hlt
  · rw [← hrows, ← hen, ← hrn]
    refine ⟨D6, HD.out.below.size, ⟨_, hk6⟩, ⟨inner, hrow3.move fun k e => ?_, by rw [hinl, hlen]; exact hsl, hone⟩⟩
    obtain ⟨_, hlt, _⟩ := hrow3.lt k e
    have hb : w2.heap.size ≤ k := hown0 k ((own_len A3 _ _ c3).trans e)
    exact h36 k (by omega) hlt
  · have hb : w2.heap.size ≤ k := hown0 k e
    omega
theorem at_row {w : World} {A : Option Addr} {n : Nat} {l : List (List Int)} (h : KB.C w A n l) (i : Nat) (hi : i < n) : ∃ ad x Ai ci, A = some ad ∧ l[i]? = some x ∧ w.cell? (ad.add i) = some (.slice Ai x.length ci) ∧ x.length ≤ ci ∧ (Kd.int .u8).C w Ai x.length x := by
  obtain ⟨hl, _, h⟩ := h
  obtain ⟨ad, hA, hc⟩ := h (by omega)
  have hil : i < l.length := by omega
  obtain ⟨cs, _, hk, hat⟩ := hc i (l[i]) (List.getElem?_eq_getElem hil)
  obtain ⟨Ai, ci, rfl, hle, hC⟩ := hk
  refine ⟨ad, l[i], Ai, ci, hA, List.getElem?_eq_getElem hil, ?_, hle, hC⟩
  have := hat 0 _ rfl
  have e1 : KB.sz = 1 := rfl
  rwa [e1, Nat.mul_one, Nat.add_zero] at this
theorem slen_calls {w : World} {sg : Nat} {X T : Value} {A : Option Addr} {n c : Nat} (h : w.heap[sg]? = some (.cells #[X, .slice A n c, T] 139 (0, 0))) :
    Calls Tryz.prog 50 #[.pointer (some ⟨sg, 0, none⟩)] w fun e w' => e = .returned (.int .i64 n) ∧ w = w' := by
  have c1 := (blk_cell h 1).trans rfl
  clear h
  go_enter Tryz.func50, Tryz.ntmps50
  go_wp2
  go_ret
  exact ⟨rfl, rfl⟩
set_option maxRecDepth 1000000 in
set_option maxHeartbeats 4000000 in
theorem sget_calls {w : World} {sg : Nat} {X T : Value} {A : Option Addr} {n c : Nat} {rows : List (List Int)} (h : w.heap[sg]? = some (.cells #[X, .slice A n c, T] 139 (0, 0))) (hK : KB.C w A n rows) (j : Nat) (hj : j < n) (x : List Int) (hx : rows[j]? = some x) (hxl : x.length ≤ 1048576) :
    Calls Tryz.prog 51 #[.pointer (some ⟨sg, 0, none⟩), .int .i64 j] w fun e w' => ∃ v, e = .returned (.tuple #[v, .int .i64 0]) ∧ Row w' w.heap.size 5 v (nums .u8 x) ∧ Below w.heap.size w w' := by
  have hlen := slen_calls h
  have hnm : n ≤ 9223372036854775807 := hK.2.1
  obtain ⟨ad, y, Ai, ci, rfl, hy, hc, _, hC⟩ := at_row hK j hj
  obtain rfl : x = y := by rw [hx] at hy; exact Option.some.inj hy
  have c1 := (blk_cell h 1).trans rfl
  have hb2 := ((Below.refl w.heap.size w).alloc (Nat.le_refl _) (.cells #[] 5))
  obtain ⟨A3, c3, w3, hrun, hrow, hgr, _⟩ := append_u8 (w.alloc (.cells #[] 5)) w.heap.size _ [] (empty_row w w.heap.size (Nat.le_refl _)) Ai ci x (Kd.C_below hC hb2) (by simp; omega) (by simp)
  simp only [List.length_nil, Nat.zero_add, List.nil_append] at hrun hrow hgr
  have hb3 : Below w.heap.size w w3 := hb2.grown hgr (by simp) (fun k hk => by
    have hk' : k = w.heap.size := by simpa [Value.ownBlock] using hk.symm
    omega)
  have d1 : (w.alloc (.cells #[] 5)).cell? ⟨sg, 1, none⟩ = some (.slice (some ad) n c) := (blk_cell ((hb2.block _ (Array.getElem?_eq_some_iff.1 h).1).trans h) 1).trans rfl
  have hlt : ad.block < w.heap.size := by have := World.block_lt_of_cell? w _ hc; rwa [Pack.blk_add] at this
  have dc : (w.alloc (.cells #[] 5)).cell? (ad.add j) = some (.slice Ai x.length ci) := (World.cell?_of_block (w := w) (by rw [Pack.blk_add]; exact hb2.block _ hlt)).trans hc
  have hji : (j : Int) < (n : Int) := by omega
  have hj0 : (0 : Int) ≤ (j : Int) := by omega
  have HR := Lib.hid hrun; have HF := Lib.hid (And.intro hrow hb3)
  obtain ⟨xl, hxl2⟩ : ∃ xl, xl = x.length := ⟨_, rfl⟩
  rw [← hxl2] at HR HF hc dc
  clear h hK hC hb2 hrun hrow hgr hb3 hx hy hxl2 hxl
  go_enter Tryz.func51, Tryz.ntmps51
  go_wp2_with fail
  refine hlen.mono ?_
  rintro e w1 ⟨rfl, rfl⟩
  clear hlen
  go_wp2_with (at_builtin; refine wpList_append_run rfl _ _ 32 rfl _ _ _ rfl rfl HR.out ?_)
  go_ret2
  exact ⟨_, rfl, HF.out⟩
end Go.Proofs.YtiinelmednbpmaaGreat.Slot
/- The walk of slot.Open. -/
namespace Go.Proofs.YtiinelmednbpmaaGreat.Slot
open Go.RowKit Go.Maps Go.Proofs.YtiinelmednbpmaaGreatW.PrintWords Go.Proofs.YtiinelmednbpmaaGreatW.PrintMore Go.Proofs.YtiinelmednbpmaaGreat.Row Go.Proofs.YtiinelmednbpmaaGreat.Cut Go.Proofs.YtiinelmednbpmaaGreat.DiskM Go.Proofs.YtiinelmednbpmaaGreat.Quor
open Go.Proofs.YtiinelmednbpmaaGreat.Crc (scanF scanGo openF openF_ok KB)
theorem openF_mem (l : List Int) : ∀ x ∈ (openF l).1, x ∈ l := by
  intro x hx
  unfold openF at hx
  simp only at hx
  split at hx
  · cases hx
  · split at hx
    · cases hx
    · split at hx
      · cases hx
      · split at hx
        · cases hx
        · exact List.mem_of_mem_drop (List.mem_of_mem_take hx)
theorem scanGo_mem : ∀ (k : Nat) (l : List Int) (p : Nat), ∀ x ∈ (scanGo k l p).1, x.length ≤ 4096 ∧ ∀ y ∈ x, y ∈ l
  | 0, l, p, x, hx => by simp [scanGo] at hx
  | k + 1, l, p, x, hx => by
    unfold scanGo at hx
    by_cases h : p < l.length
    · rw [if_pos h] at hx
      by_cases h2 : (openF (l.drop p)).2.2 ≠ 0
      · rw [if_pos h2] at hx; cases hx
      · rw [if_neg h2] at hx
        rcases List.mem_cons.1 hx with rfl | hx
        · exact ⟨(openF_ok (l.drop p) (by simpa using h2)).2.2, fun y hy => List.mem_of_mem_drop (openF_mem _ y hy)⟩
        · exact scanGo_mem k l _ x hx
    · rw [if_neg h] at hx; cases hx
/-- What payloads make of a new node. -/
def foldF (l : List (List Int)) : Int × List B3 := l.foldl redoF (0, [])
theorem foldF_snoc (l : List (List Int)) (x : List Int) : foldF (l ++ [x]) = redoF (foldF l) x := by unfold foldF; rw [List.foldl_append]; rfl
/-- A disk's blocks. -/
def DB (gd : Nat) (vd : Value) (k : Nat) : Prop := k = gd ∨ some k = vd.ownBlock
def OpenP (w0 w : World) (gd : Nat) (vd : Value) (P : Nat → Prop) (room : Int) (bs : List Int) (e : Ending) (w' : World) : Prop :=
  ∃ n ep m, n.gp = (gd, P) ∧ e = .returned (.pointer (some ⟨n.gn, 0, none⟩)) ∧ Nd w0 w' n room (bs.take (scanF bs).2) (bs.take (scanF bs).2).length ep m ∧ (ep, m.map C4.c3) = foldF (scanF bs).1 ∧ Stp w w' (DB gd vd) (SN n)
theorem Nd.new {w0 w : World} {sg gd : Nat} {vr vd : Value} {room : Int} {bs : List Int} {safe : Nat} (h : Sg w0 w sg gd vr vd room bs safe) (P : Nat → Prop) (hP : ∀ k, P k → k < w.heap.size) :
    Nd w0 ((w.alloc (.map #[] 0)).alloc (.cells #[.pointer (some ⟨sg, 0, none⟩), .int .i64 0, .map (some w.heap.size)] 108)) ⟨w.heap.size + 1, sg, gd, w.heap.size, vr, vd, P⟩ room bs safe 0 [] := by
  have hb := ((Below.refl w.heap.size w).alloc (Nat.le_refl _) (.map #[] 0)).alloc (by simp) (.cells #[.pointer (some ⟨sg, 0, none⟩), .int .i64 0, .map (some w.heap.size)] 108)
  have hlo := h.disk.below.size
  refine ⟨h.below hb, (show w0.heap.size ≤ w.heap.size + 1 by omega), hlo, ?_, ⟨_, (World.ownsMap_made w Tryz.prog 3 RC4).alloc _, Agr.nil⟩, List.Pairwise.nil, fun _ hz => (by cases hz), ⟨by decide, by decide⟩, fun _ hz => (by cases hz), fun k hk => Nat.lt_of_lt_of_le (hP k hk) hb.size⟩
  have := heap_alloc_new (w.alloc (.map #[] 0)) (.cells #[.pointer (some ⟨sg, 0, none⟩), .int .i64 0, .map (some w.heap.size)] 108)
  simpa using this
theorem SS.of_fr {w w' : World} {sg gd : Nat} {vr vd vd' : Value} (hsg : w.heap.size ≤ sg) (hf : Fr w w' gd vd vd') (hvr : ∀ k, vr.ownBlock = some k → w.heap.size ≤ k) {k : Nat} (hk : SS sg gd vr vd' k) : DB gd vd k ∨ w.heap.size ≤ k := by
  rcases hk with e | e | e | e
  · exact .inl (.inl e)
  · rcases hf.2.2 with q | q | ⟨b, q, hb⟩
    · rw [q] at e; cases e
    · exact .inl (.inr (e.trans q))
    · rw [q] at e; injection e with e; exact .inr (by omega)
  · exact .inr (by omega)
  · exact .inr (hvr k e.symm)
set_option maxRecDepth 1000000 in
set_option maxHeartbeats 8000000 in
theorem open_calls {w0 w : World} {gd : Nat} {vd : Value} {room : Int} {bs : List Int} {safe : Nat} (D : Dk w0 w gd vd room bs safe) (P : Nat → Prop) (hP : ∀ k, P k → k < w.heap.size) :
    Calls Tryz.prog 27 #[.pointer (some ⟨gd, 0, none⟩)] w (OpenP w0 w gd vd P room bs) := by
  have hmm := @run_makeMap Tryz.prog
  have hop := sopen_calls D
  have hbl : (bs.length : Int) ≤ 1048576 := by have := D.fit; have := D.room1; omega
  have HBy := Lib.hid D.byte
  go_enter Tryz.func27, Tryz.ntmps27
  go_wp2_with fail
  refine hop.mono ?_
  rintro e w1 ⟨sg, A, c, vd', rfl, hsg, hc, hK, hS, hF, hvr⟩
  obtain ⟨rows, hrows⟩ : ∃ rows, rows = (scanF bs).1 := ⟨_, rfl⟩
  obtain ⟨en, hen⟩ : ∃ en, en = (scanF bs).2 := ⟨_, rfl⟩
  have hrm : ∀ x ∈ rows, x.length ≤ 4096 ∧ ∀ y ∈ x, 0 ≤ y ∧ y ≤ 255 := fun x hx => by
    obtain ⟨q1, q2⟩ := scanGo_mem (bs.length + 1) bs 0 x (by rw [hrows] at hx; exact hx)
    exact ⟨q1, fun y hy => HBy.out y (q2 y hy)⟩
  have hOP : ∀ (e : Ending) (w' : World) (n : NB) (ep : Int) (m : List C4), n.gp = (gd, P) → e = .returned (.pointer (some ⟨n.gn, 0, none⟩)) → Nd w0 w' n room (bs.take en) (bs.take en).length ep m → (ep, m.map C4.c3) = foldF rows → Stp w w' (DB gd vd) (SN n) → OpenP w0 w gd vd P room bs e w' := by
    rw [hrows, hen]; exact fun e w' n ep m h1 h2 h3 h4 h5 => ⟨n, ep, m, h1, h2, h3, h4, h5⟩
  have hrl : rows.length ≤ 1048576 := by
    have h1 := scan_len bs
    have h2 := (Crc.scanF_more bs []).2.2
    rw [hrows]; omega
  rw [← hrows] at hK hS hc hvr
  rw [← hen] at hS
  obtain ⟨rn, hrn⟩ : ∃ rn, rn = rows.length := ⟨_, rfl⟩
  rw [← hrn] at hK hS hc hvr hrl
  have hN := Nd.new hS P (fun k hk => Nat.lt_of_lt_of_le (hP k hk) hF.1)
  have hbn := ((Below.refl w1.heap.size w1).alloc (Nat.le_refl _) (.map #[] 0)).alloc (by simp) (.cells #[.pointer (some ⟨sg, 0, none⟩), .int .i64 0, .map (some w1.heap.size)] 108)
  have hst : Stp w ((w1.alloc (.map #[] 0)).alloc (.cells #[.pointer (some ⟨sg, 0, none⟩), .int .i64 0, .map (some w1.heap.size)] 108)) (DB gd vd) (SN ⟨w1.heap.size + 1, sg, gd, w1.heap.size, .slice A rn c, vd', P⟩) := by
    have h1 := hF.1
    refine ⟨Nat.le_trans h1 hbn.size, fun k hk hs => (hbn.block k (by omega)).trans (hF.2.1 k hk (fun e => hs (.inl e)) (fun e => hs (.inr e))), fun k hk => ?_⟩
    rcases hk with e | e | e
    · exact SS.of_fr hsg hF hvr e
    · exact .inr (by simp only at e; omega)
    · exact .inr (by simp only at e; omega)
  obtain ⟨tt, hblk⟩ := hS.blk
  have HW := Lib.hid (And.intro hN hst)
  have HK := Lib.hid (And.intro hblk hK)
  have HOP := Lib.hid hOP
  have HRm := Lib.hid hrm
  have HRn := Lib.hid hrn
  have HBn := Lib.hid hbn
  clear hop hK hS hF hvr hN hst hblk hOP hrm hrn hbn hrows hen D hbl
  have hblk2 := (HBn.out.block sg (Array.getElem?_eq_some_iff.1 HK.out.1).1).trans HK.out.1
  have hln := slen_calls hblk2
  have hrli : (rn : Int) ≤ 1048576 := by omega
  clear hblk2
  go_wp2_with fail
  refine hln.mono ?_
  rintro e wx ⟨rfl, rfl⟩
  clear hln
  go_wp2_with fail
  go_loopw [17] (fun i wx => ∃ (k : Nat) (ep : Int) (m : List C4), k ≤ rn ∧ i = .int .i64 k ∧ Nd w0 wx ⟨w1.heap.size + 1, sg, gd, w1.heap.size, .slice A rn c, vd', P⟩ room (bs.take en) (bs.take en).length ep m ∧ (ep, m.map C4.c3) = foldF (rows.take k) ∧ Stp ((w1.alloc (.map #[] 0)).alloc (.cells #[.pointer (some ⟨sg, 0, none⟩), .int .i64 0, .map (some w1.heap.size)] 108)) wx (NM ⟨w1.heap.size + 1, sg, gd, w1.heap.size, .slice A rn c, vd', P⟩) (NM ⟨w1.heap.size + 1, sg, gd, w1.heap.size, .slice A rn c, vd', P⟩)) (fun i _ => rn - (intOf i).toNat)
  case atStart => exact ⟨0, 0, [], Nat.zero_le _, rfl, HW.out.1, rfl, Stp.refl _ _⟩
  case round =>
    obtain ⟨k, ep, m, hk, rfl, hN, hm, hst⟩ := hrel
    rename World => wx
    have HN := Lib.hid hN; have HM := Lib.hid hm; have HSt := Lib.hid hst
    have hlow : ∀ k, k < w1.heap.size → wx.heap[k]? = w1.heap[k]? := fun k hk => (hst.keep k (by simp; omega) (fun e => by rcases e with e | e <;> simp only at e <;> omega)).trans (HBn.out.block k hk)
    obtain ⟨q0, q1, q2, qf⟩ := hN.cells
    simp only at q0
    have hsg1 := (Array.getElem?_eq_some_iff.1 HK.out.1).1
    have hbk := (hlow sg hsg1).trans HK.out.1
    have HLow := Lib.hid hlow
    clear hN hm hst hlow q1 q2 qf
    by_cases hlt : k < rn
    · have hlti : (k : Int) < (rn : Int) := by omega
      have hkr : k < rows.length := by have := HRn.out; omega
      obtain ⟨x, hx⟩ : ∃ x, rows[k]? = some x := ⟨_, List.getElem?_eq_getElem hkr⟩
      have hxm := HRm.out x (List.mem_of_getElem? hx)
      have hKx := Kd.Heap.C (Kd.heap_slice 5 (Kd.heap_int .u8)) (fun k hk => HLow.out k hk) HK.out.2
      have hgt := sget_calls hbk hKx k hlt x hx (by omega)
      have HX := Lib.hid (And.intro hx hxm)
      clear hkr hx hxm hKx hbk
      go_wp2_with fail
      refine hgt.mono ?_
      rintro e w5 ⟨v5, rfl, hrow5, hb5⟩
      obtain ⟨A5, c5, hv5, hc5, hC5⟩ := hrow5.reads
      subst hv5
      have hrd := redo_calls (HN.out.below hb5) A5 c5 x hC5 HX.out.2.2 (by have := HX.out.2.1; omega)
      have HB5 := Lib.hid hb5
      clear hgt hrow5 hb5 hC5 q0
      go_wp2_with fail
      refine hrd.mono ?_
      rintro e w6 ⟨ep', m', rfl, hf, hN6, hst6⟩
      have hfin : (ep', m'.map C4.c3) = foldF (rows.take (k + 1)) := by
        rw [hf, HM.out, take_snoc'' HX.out.1, foldF_snoc]
      have HF := Lib.hid (And.intro hN6 (And.intro hfin (HSt.out.trans ((Stp.of_below _ HB5.out).trans hst6))))
      clear hrd hf hN6 hst6 hfin
      go_wp2_with fail
      go_roundw
      case rel => exact ⟨k + 1, ep', m', by omega, by go_num, HF.out⟩
      case measure => simp [intOf]; omega
    · obtain rfl : k = rn := by omega
      have hfin : (ep, m.map C4.c3) = foldF rows := by rw [HM.out, List.take_of_length_le (by have := HRn.out; omega)]
      have HFin := Lib.hid hfin
      clear hfin hbk q0
      go_wp2_with fail
      go_ret
      exact HOP.out _ _ ⟨w1.heap.size + 1, sg, gd, w1.heap.size, .slice A k c, vd', P⟩ ep m rfl rfl HN.out HFin.out (HW.out.2.trans (NM.all HSt.out))
end Go.Proofs.YtiinelmednbpmaaGreat.Slot
/- Payloads: what is laid down, and what it is read as. -/
namespace Go.Proofs.YtiinelmednbpmaaGreat.PWrite
open Go.RowKit Go.Proofs.YtiinelmednbpmaaGreat.Crc Go.Proofs.YtiinelmednbpmaaGreat.Pack Go.Proofs.YtiinelmednbpmaaGreatW.PrintWords
/-- A number's bytes (up to 2097151). -/
def uintW (n : Nat) : List Int := if n < 128 then [(n : Int)] else if n < 16384 then [(n : Int) % 128 + 128, (n : Int) / 128] else [(n : Int) % 128 + 128, (n : Int) / 128 % 128 + 128, (n : Int) / 16384]
theorem uintW_len (n : Nat) : 1 ≤ (uintW n).length ∧ (uintW n).length ≤ 3 := by
  unfold uintW; split
  · simp
  · split <;> simp
theorem uintW_len2 (n : Nat) (h : n < 16384) : (uintW n).length ≤ 2 := by
  unfold uintW
  by_cases h1 : n < 128
  · rw [if_pos h1]; simp
  · rw [if_neg h1, if_pos h]; simp
theorem uintW_bytes (n : Nat) (h : n < 2097152) : ∀ x ∈ uintW n, 0 ≤ x ∧ x ≤ 255 := by
  intro x hx
  unfold uintW at hx
  split at hx
  · simp at hx; omega
  · split at hx
    · simp at hx; omega
    · simp at hx; omega
theorem uintR_uintW (n : Nat) (hn : n < 2097152) (rest : List Int) : uintR (uintW n ++ rest) = ((n : Int), 0, (uintW n).length) := by
  unfold uintR uintW
  split
  · rename_i h
    rw [uintGo]
    simp
    rw [if_neg (by omega)]
    congr 1
    omega
  · split
    · rename_i h
      rw [uintGo]
      simp
      rw [if_pos (by omega), uintGo]
      simp
      rw [if_neg (by omega), if_neg (by omega)]
      congr 1
      omega
    · rename_i h h2
      rw [uintGo]
      simp
      rw [if_pos (by omega), uintGo]
      simp
      rw [if_pos (by omega), uintGo]
      simp
      rw [if_neg (by omega), if_neg (by omega)]
      congr 1
      omega
theorem or128' (n : Int) (h0 : 0 ≤ n) : bits .or .u8 (n % 256) 128 = n % 128 + 128 := by
  obtain ⟨m, rfl⟩ := Int.eq_ofNat_of_zero_le h0
  exact or128 m
theorem uint_eq (k : Nat) (l : List Int) (n : Nat) (hn : n < 2097152) (hl : l.length ≤ 1048576) : pack_Uint.f (k + 3) l (n : Int) = some (l ++ uintW n) := by
  unfold pack_Uint.f
  rw [Option.bind_some, if_pos (by simp; omega), List.nil_append, pack_Uint.l0]
  unfold uintW
  by_cases h : n < 128
  · rw [if_neg (by omega), if_pos (by omega), if_pos h]
    have e : (n : Int) % 256 = n := by omega
    rw [e]
  · rw [if_pos (by omega), if_pos (by omega), pack_Uint.l0, if_neg h, or128' _ (by omega)]
    by_cases h2 : n < 16384
    · have e : (n : Int) / 128 % 256 = (n : Int) / 128 := by omega
      rw [if_neg (by omega), if_pos (by rw [List.length_append]; simp; omega), if_pos h2, e, List.append_assoc]
      rfl
    · have e : (n : Int) / 128 / 128 % 256 = (n : Int) / 16384 := by omega
      rw [if_pos (by omega), if_pos (by rw [List.length_append]; simp; omega), pack_Uint.l0, if_neg (by omega), if_pos (by rw [List.length_append, List.length_append]; simp; omega), if_neg h2, e, or128' _ (by omega), List.append_assoc, List.append_assoc]
      rfl
theorem puint_calls (A : Option Addr) (c : Nat) (l : List Int) (n : Int) (w : World) (hC : (Kd.int .u8).C w A l.length l) (hc : l.length ≤ c) (h0 : 0 ≤ n) (hn : n < 2097152) (hl : l.length ≤ 1048576) :
    Calls Tryz.prog 57 #[.slice A l.length c, .int .u64 n] w fun e w' => ∃ v, e = .returned v ∧ (Kd.int .u8).R 5 w' w.heap.size (fun _ => True) v (l ++ uintW n.toNat) ∧ Below w.heap.size w w' := by
  obtain ⟨m, rfl⟩ := Int.eq_ofNat_of_zero_le h0
  exact pack_Uint.calls 3 A c l (m : Int) _ w hC hc (uint_eq 0 l m (by omega) hl)
theorem pbytes_calls (A : Option Addr) (c : Nat) (l : List Int) (B : Option Addr) (d : Nat) (b : List Int) (w : World) (hC : (Kd.int .u8).C w A l.length l) (hc : l.length ≤ c) (hCb : (Kd.int .u8).C w B b.length b) (hd : b.length ≤ d) (hl : l.length ≤ 1048570) (hb : b.length < 1048576) :
    Calls Tryz.prog 90 #[.slice A l.length c, .slice B b.length d] w fun e w' => ∃ v, e = .returned v ∧ (Kd.int .u8).R 5 w' w.heap.size (fun _ => True) v (l ++ (uintW b.length ++ b)) ∧ Below w.heap.size w w' := by
  refine pack_Bytes.calls 3 A c l B d b _ w hC hc hCb hd ?_
  have hw : IntKind.u64.wrap (b.length : Int) = b.length := by rw [IntKind.wrap_u64]; omega
  have h3 := uintW_len b.length
  unfold pack_Bytes.f
  rw [hw, uint_eq 0 l b.length (by omega) (by omega), Option.bind_some, if_pos (by rw [List.length_append]; omega), List.append_assoc]
theorem equal_go (a b : List Int) (hl : a.length = b.length) (hb : a.length ≤ 1048576) : ∀ (d i k : Nat), i + d = a.length → d < k → a.take i = b.take i → slices_Equal_byte_byte.l0 k a b (a.length : Int) i = some (decide (a = b))
  | 0, i, k, hi, hk, he => by
    obtain ⟨k, rfl⟩ : ∃ m, k = m + 1 := ⟨k - 1, by omega⟩
    rw [slices_Equal_byte_byte.l0, if_neg (by omega)]
    rw [List.take_of_length_le (by omega), List.take_of_length_le (by omega)] at he
    rw [he, decide_eq_true rfl]
  | d + 1, i, k, hi, hk, he => by
    obtain ⟨k, rfl⟩ : ∃ m, k = m + 1 := ⟨k - 1, by omega⟩
    have h1 : i < a.length := by omega
    have h2 : i < b.length := by omega
    have ea : rd a (i : Int) = a[i] := by unfold rd; rw [Int.toNat_natCast, List.getD_eq_getElem?_getD, List.getElem?_eq_getElem h1]; rfl
    have eb : rd b (i : Int) = b[i] := by unfold rd; rw [Int.toNat_natCast, List.getD_eq_getElem?_getD, List.getElem?_eq_getElem h2]; rfl
    have hw : wrap64 ((i : Int) + 1) = ((i + 1 : Nat) : Int) := by unfold wrap64; omega
    rw [slices_Equal_byte_byte.l0, if_pos (by omega), if_pos (by omega), if_pos (by omega), if_pos (by omega), ea, eb]
    by_cases h : a[i] = b[i]
    · rw [if_pos h, hw]
      refine equal_go a b hl hb d (i + 1) k (by omega) (by omega) ?_
      rw [List.take_succ_eq_append_getElem h1, List.take_succ_eq_append_getElem h2, he, h]
    · rw [if_neg h, decide_eq_false (fun e => h (by simp only [e]))]
theorem equal_calls (A : Option Addr) (c : Nat) (a : List Int) (B : Option Addr) (d : Nat) (b : List Int) (w : World) (hC : (Kd.int .u8).C w A a.length a) (hc : a.length ≤ c) (hD : (Kd.int .u8).C w B b.length b) (hd : b.length ≤ d) (hb : a.length ≤ 1048576) :
    Calls Tryz.prog 89 #[.slice A a.length c, .slice B b.length d] w fun e w' => e = .returned (.bool (decide (a = b))) ∧ Drawn0 w w' := by
  refine slices_Equal_byte_byte.calls (a.length + 1) A c a B d b _ w hC hc hD hd ?_
  unfold slices_Equal_byte_byte.f
  by_cases h : a.length = b.length
  · rw [if_pos (by omega)]
    exact equal_go a b h hb a.length 0 _ (by omega) (by omega) rfl
  · rw [if_neg (by omega), decide_eq_false (fun e => h (by rw [e]))]
end Go.Proofs.YtiinelmednbpmaaGreat.PWrite
namespace Go.Proofs.YtiinelmednbpmaaGreat.Slot
open Go.Proofs.YtiinelmednbpmaaGreat.Crc Go.Proofs.YtiinelmednbpmaaGreat.Pack Go.Proofs.YtiinelmednbpmaaGreat.PWrite
def writeP (ep at_ : Nat) (b : List Int) : List Int := uintW 1 ++ uintW ep ++ uintW at_ ++ (uintW b.length ++ b)
def sealP (ep : Nat) : List Int := uintW 2 ++ uintW ep
theorem headR_write (ep at_ : Nat) (b : List Int) (h : ep ≤ 1048576) : headR (writeP ep at_ b) = some ⟨1, ep, uintW at_ ++ (uintW b.length ++ b)⟩ := by
  have e1 : writeP ep at_ b = uintW 1 ++ (uintW ep ++ (uintW at_ ++ (uintW b.length ++ b))) := by unfold writeP; simp [List.append_assoc]
  unfold headR
  rw [e1, uintR_uintW 1 (by omega)]
  simp only
  rw [List.drop_left, uintR_uintW ep (by omega)]
  simp only
  rw [List.drop_left, if_neg (by simp; omega)]
  rfl
theorem headR_seal (ep : Nat) (h : ep ≤ 1048576) : headR (sealP ep) = some ⟨2, ep, []⟩ := by
  have e1 : sealP ep = uintW 2 ++ (uintW ep ++ []) := by unfold sealP; simp
  unfold headR
  rw [e1, uintR_uintW 2 (by omega)]
  simp only
  rw [List.drop_left, uintR_uintW ep (by omega)]
  simp only
  rw [List.drop_left, if_neg (by simp; omega)]
  rfl
theorem cellR_write (at_ : Nat) (b : List Int) (ha : at_ < 4096) (hb : b.length ≤ 2048) : cellR (uintW at_ ++ (uintW b.length ++ b)) = some ((at_ : Int), b) := by
  unfold cellR bytesR
  rw [uintR_uintW at_ (by omega)]
  simp only
  rw [List.drop_left, uintR_uintW b.length (by omega)]
  simp only
  rw [List.drop_left, List.length_append]
  have e1 : ¬ (((uintW b.length).length + b.length - (uintW b.length).length : Nat) : Int) < (b.length : Int) := by omega
  rw [if_neg (show ¬ ((0 : Int) ≠ 0) from fun h => h rfl), if_neg e1]
  simp only [Int.toNat_natCast, List.take_length]
  have e2 : (uintW b.length ++ b).drop ((uintW b.length).length + b.length) = [] := List.drop_eq_nil_of_le (by rw [List.length_append]; omega)
  rw [e2, if_neg (by simp; omega)]
theorem writeP_len (ep at_ : Nat) (b : List Int) (ha : at_ < 4096) (hb : b.length ≤ 2048) : (writeP ep at_ b).length ≤ b.length + 8 := by
  unfold writeP
  simp only [List.length_append]
  have h1 : (uintW 1).length = 1 := rfl
  have h2 := uintW_len ep
  have h3 := uintW_len2 at_ (by omega)
  have h4 := uintW_len2 b.length (by omega)
  omega
theorem sealP_len (ep : Nat) : (sealP ep).length ≤ 4 := by
  unfold sealP
  rw [List.length_append]
  have h1 : (uintW 2).length = 1 := rfl
  have h2 := uintW_len ep
  omega
theorem writeP_bytes (ep at_ : Nat) (b : List Int) (h : ep ≤ 1048576) (ha : at_ < 4096) (hb : b.length ≤ 2048) (hby : ∀ x ∈ b, 0 ≤ x ∧ x ≤ 255) : ∀ x ∈ writeP ep at_ b, 0 ≤ x ∧ x ≤ 255 := by
  intro x hx
  unfold writeP at hx
  simp only [List.mem_append] at hx
  rcases hx with ((hx | hx) | hx) | hx | hx
  · exact uintW_bytes 1 (by omega) x hx
  · exact uintW_bytes ep (by omega) x hx
  · exact uintW_bytes at_ (by omega) x hx
  · exact uintW_bytes b.length (by omega) x hx
  · exact hby x hx
theorem sealP_bytes (ep : Nat) (h : ep ≤ 1048576) : ∀ x ∈ sealP ep, 0 ≤ x ∧ x ≤ 255 := by
  intro x hx
  unfold sealP at hx
  rcases List.mem_append.1 hx with hx | hx
  · exact uintW_bytes 2 (by omega) x hx
  · exact uintW_bytes ep (by omega) x hx
theorem frame_len (p : List Int) : (frameF p).length ≤ p.length + 6 := by
  rw [frameF_len, uintB_len]; split <;> omega
/-- A node by definition: its epoch, its cells, the disk's bytes. -/
abbrev S3 := Int × List B3 × List Int
def noteF (s : S3) (p : List Int) : S3 := ((redoF (s.1, s.2.1) p).1, (redoF (s.1, s.2.1) p).2, s.2.2 ++ frameF p)
def writeF (s : S3) (ep at_ : Int) (b : List Int) : Int × S3 :=
  if at_ < 0 ∨ 4096 ≤ at_ ∨ ep < 0 ∨ 1048576 < ep ∨ 2048 < b.length then (2, s)
  else if ep < s.1 then (7, s)
  else match look s.2.1 at_ with
    | none => (0, noteF s (writeP ep.toNat at_.toNat b))
    | some d => if ep ≤ d.2.1 then (if d.2.1 = ep ∧ d.2.2 = b then (0, s) else (12, s)) else (0, noteF s (writeP ep.toNat at_.toNat b))
def sealF (s : S3) (ep : Int) : Int × S3 :=
  if ep < 0 ∨ 1048576 < ep then (2, s) else if ep ≤ s.1 then (7, s) else (0, noteF s (sealP ep.toNat))
end Go.Proofs.YtiinelmednbpmaaGreat.Slot
/- The walk of note: a payload is put, synced, done. -/
namespace Go.Proofs.YtiinelmednbpmaaGreat.Slot
open Go.RowKit Go.Maps Go.Proofs.YtiinelmednbpmaaGreatW.PrintWords Go.Proofs.YtiinelmednbpmaaGreatW.PrintMore Go.Proofs.YtiinelmednbpmaaGreat.Row Go.Proofs.YtiinelmednbpmaaGreat.Cut Go.Proofs.YtiinelmednbpmaaGreat.DiskM Go.Proofs.YtiinelmednbpmaaGreat.Quor
open Go.Proofs.YtiinelmednbpmaaGreat.Crc (scanF frameF KB)
section
variable {w0 w w' : World} {n : NB} {room : Int} {bs bs' : List Int} {safe safe' : Nat} {vr' vd' : Value} {ep : Int} {m : List C4}
/-- The row of payloads was turned alone. -/
theorem Nd.turn (h : Nd w0 w n room bs safe ep m) (hS : Sg w0 w' n.sg n.gd vr' vd' room bs' safe') (hst : Stp w w' (SS n.sg n.gd n.vr n.vd) (SS n.sg n.gd vr' vd')) :
    Nd w0 w' { n with vr := vr', vd := vd' } room bs' safe' ep m ∧ Stp w w' (SN n) (SN { n with vr := vr', vd := vd' }) := by
  have hns : ¬ SS n.sg n.gd n.vr n.vd n.gn := fun e => by
    obtain ⟨cs, ty, hc, h1, _⟩ := h.seg.typed e
    exact blk_ne hc h.blk h1 rfl
  have hms : ¬ SS n.sg n.gd n.vr n.vd n.mb := fun e => by
    obtain ⟨cs, ty, hc, _⟩ := h.seg.typed e
    exact h.map_ne hc rfl
  obtain ⟨D, hD, hA⟩ := h.map
  have hmb := hst.keep n.mb hD.lt hms
  refine ⟨⟨hS, h.lown, h.lowm, (hst.keep n.gn (Array.getElem?_eq_some_iff.1 h.blk).1 hns).trans h.blk, ⟨D, ?_, hA⟩, h.once, fun z hz => ?_, h.rng, h.rngc, fun k hk => Nat.lt_of_lt_of_le (h.pb k hk) hst.size⟩, hst.mono (fun _ e => .inl e) (fun k e => ?_)⟩
  · obtain ⟨es, clock, hb, hF, hs, hDe⟩ := hD
    exact ⟨es, clock, hmb.trans hb, hF, hs, hDe⟩
  · obtain ⟨hr, hv⟩ := h.rows z hz
    have hno : ∀ k, (sl4 z).ownBlock = some k → k < w.heap.size ∧ ¬ SS n.sg n.gd n.vr n.vd k := fun k hk => by
      obtain ⟨_, hlt, cur, hc⟩ := hr.lt k hk
      refine ⟨hlt, fun e => ?_⟩
      obtain ⟨t, hb⟩ := h.seg.blk
      obtain ⟨xs, hrr, _, _⟩ := h.seg.row
      rcases e with e | e | e | e
      · exact blk_ne hc h.seg.disk.blk (by decide) e
      · exact (hv k hk).1 e
      · exact blk_ne hc hb (by decide) e
      · obtain ⟨_, _, cur2, hc2⟩ := hrr.lt k e.symm
        exact blk_ne hc hc2 (by decide) rfl
    refine ⟨hr.move fun k hk => hst.keep k (hno k hk).1 (hno k hk).2, fun k hk => ⟨fun e => ?_, (hv k hk).2⟩⟩
    rcases hst.new k (.inr (.inl e)) with q | q
    · exact (hno k hk).2 q
    · have := (hno k hk).1
      omega
  · rcases e with e | e | e
    · exact .inr e
    · exact .inl (.inr (.inl e))
    · exact .inl (.inr (.inr e))
end
def NoteP (w0 w : World) (n : NB) (room : Int) (s : S3) (p : List Int) (e : Ending) (w' : World) : Prop :=
  ∃ n' ep' m', e = .returned (.int .i64 0) ∧ n'.gp = n.gp ∧ n'.gn = n.gn ∧ Nd w0 w' n' room (noteF s p).2.2 (noteF s p).2.2.length ep' m' ∧ (ep', m'.map C4.c3, (noteF s p).2.2) = noteF s p ∧ Stp w w' (SN n) (SN n')
set_option maxRecDepth 1000000 in
set_option maxHeartbeats 4000000 in
theorem note_calls {w0 w : World} {n : NB} {room : Int} {bs : List Int} {safe : Nat} {ep : Int} {m : List C4} (N : Nd w0 w n room bs safe ep m) (A : Option Addr) (c : Nat) (l : List Int) (hA : Kd.F (Kd.int .u8) w (fun k => ¬ SN n k) A l.length l) (hc : l.length ≤ c) (hby : ∀ x ∈ l, 0 ≤ x ∧ x ≤ 255) (hl : l.length ≤ 4096) (hfit : ((frameF l).length : Int) ≤ room - bs.length) :
    Calls Tryz.prog 56 #[.pointer (some ⟨n.gn, 0, none⟩), .slice A l.length c] w (NoteP w0 w n room (ep, m.map C4.c3, bs) l) := by
  obtain ⟨c0, _, _, _⟩ := N.cells
  have hp := sput_calls N.seg A c l (Kd.F_mono hA fun k hk e => hk (.inl e)) hc hby hl hfit
  have HN := Lib.hid N; have HA := Lib.hid hA; have HBy := Lib.hid hby
  clear N hA hby hfit
  go_enter Tryz.func56, Tryz.ntmps56
  go_wp2_with fail
  refine hp.mono ?_
  rintro e w1 ⟨rfl, vr1, vd1, hS1, hst1⟩
  obtain ⟨N1, T1⟩ := HN.out.turn hS1 hst1
  obtain ⟨d0, _, _, _⟩ := N1.cells
  simp only at d0
  have hsy := ssync_calls N1.seg
  have HN1 := Lib.hid N1; have HT1 := Lib.hid T1
  clear hp hS1 hst1 N1 T1 c0
  go_wp2_with fail
  refine hsy.mono ?_
  rintro e w2 ⟨rfl, hS2, hst2⟩
  obtain ⟨N2, T2⟩ := HN1.out.turn hS2 hst2
  have hT := HT1.out.trans T2
  have hC2 := HA.out w2 fun k hk hlt => hT.keep k hlt hk
  have hrd := redo_calls N2 A c l hC2 HBy.out (by omega)
  have HT := Lib.hid hT
  clear hsy hS2 hst2 N2 T2 hT hC2 d0
  go_wp2_with fail
  refine hrd.mono ?_
  rintro e w3 ⟨ep', m', rfl, hf, N3, hst3⟩
  have HF := Lib.hid (And.intro hf (And.intro N3 (HT.out.trans (NM.all hst3))))
  clear hrd hf N3 hst3
  go_wp2_with fail
  go_ret
  obtain ⟨hf, N3, hst⟩ := HF.out
  exact ⟨⟨n.gn, n.sg, n.gd, n.mb, vr1, vd1, n.P⟩, ep', m', rfl, rfl, rfl, N3, by unfold noteF; rw [← hf], hst⟩
end Go.Proofs.YtiinelmednbpmaaGreat.Slot
/- The walk of Write. -/
namespace Go.Proofs.YtiinelmednbpmaaGreat.Slot
open Go.RowKit Go.Maps Go.Proofs.YtiinelmednbpmaaGreatW.PrintWords Go.Proofs.YtiinelmednbpmaaGreatW.PrintMore Go.Proofs.YtiinelmednbpmaaGreat.Row Go.Proofs.YtiinelmednbpmaaGreat.Cut Go.Proofs.YtiinelmednbpmaaGreat.DiskM Go.Proofs.YtiinelmednbpmaaGreat.Quor
open Go.Proofs.YtiinelmednbpmaaGreat.PWrite (puint_calls pbytes_calls equal_calls uintW uintW_len uintW_len2)
open Go.Proofs.YtiinelmednbpmaaGreat.Crc (frameF)
def AnsP (w0 w : World) (n : NB) (room : Int) (r : Int × S3) (e : Ending) (w' : World) : Prop :=
  ∃ n' ep' m', e = .returned (.int .i64 r.1) ∧ n'.gp = n.gp ∧ n'.gn = n.gn ∧ Nd w0 w' n' room r.2.2.2 r.2.2.2.length ep' m' ∧ (ep', m'.map C4.c3, r.2.2.2) = r.2 ∧ Stp w w' (SN n) (SN n')
section
variable {w0 w w' : World} {n : NB} {room : Int} {bs : List Int} {ep : Int} {m : List C4}
theorem AnsP.same (N : Nd w0 w n room bs bs.length ep m) (hb : Below w.heap.size w w') (r : Int) : AnsP w0 w n room (r, (ep, m.map C4.c3, bs)) (.returned (.int .i64 r)) w' :=
  ⟨n, ep, m, rfl, rfl, rfl, N.below hb, rfl, Stp.of_below _ hb⟩
theorem AnsP.note {p : List Int} {w1 : World} {e : Ending} (hb : Below w.heap.size w w1) (h : NoteP w0 w1 n room (ep, m.map C4.c3, bs) p e w') : AnsP w0 w n room (0, noteF (ep, m.map C4.c3, bs) p) e w' := by
  obtain ⟨n', ep', m', h1, h2, h3, h4, h5, h6⟩ := h
  exact ⟨n', ep', m', h1, h2, h3, h4, h5, (Stp.of_below _ hb).trans h6⟩
theorem Nd.bytes (N : Nd w0 w n room bs bs.length ep m) {z : C4} (hz : z ∈ m) : z.by_.length ≤ z.c ∧ (Kd.int .u8).C w z.A z.by_.length z.by_ := by
  obtain ⟨A, c, hv, hc, hC⟩ := (N.rows z hz).1.reads
  injection hv with h1 h2 h3
  subst h1; subst h3
  exact ⟨hc, hC⟩
/-- A payload that was just laid is none of the node's blocks. -/
theorem Nd.fresh (N : Nd w0 w n room bs bs.length ep m) {w1 : World} {base : Nat} (hb : w.heap.size ≤ base) {A : Option Addr} {k c : Nat} {l : List Int} (h : (Kd.int .u8).R 5 w1 base (fun _ => True) (.slice A k c) l) : Kd.F (Kd.int .u8) w1 (fun k => ¬ SN n k) A k l :=
  Kd.F_mono (Kd.R_F (Kd.R_bound h)) fun k hk e => by have := N.lt e; have := hk.2.1; omega
end
set_option maxRecDepth 1000000 in
set_option maxHeartbeats 8000000 in
theorem write_calls {w0 w : World} {n : NB} {room : Int} {bs : List Int} {ep : Int} {m : List C4} (N : Nd w0 w n room bs bs.length ep m) (epoch at_ : Int) (B : Option Addr) (d : Nat) (b : List Int) (hC : (Kd.int .u8).C w B b.length b) (hd : b.length ≤ d) (hby : ∀ x ∈ b, 0 ≤ x ∧ x ≤ 255) (hbl : b.length ≤ 9223372036854775807) (hfit : (bs.length : Int) + b.length + 20 ≤ room) :
    Calls Tryz.prog 66 #[.pointer (some ⟨n.gn, 0, none⟩), .int .i64 epoch, .int .i64 at_, .slice B b.length d] w (AnsP w0 w n room (writeF (ep, m.map C4.c3, bs) epoch at_ b)) := by
  obtain ⟨_, c1, c2, _⟩ := N.cells
  have HN := Lib.hid N; have HC := Lib.hid hC; have HBy := Lib.hid hby; have HFit := Lib.hid hfit; have HD := Lib.hid hd
  have hF : writeF (ep, m.map C4.c3, bs) epoch at_ b = writeF (ep, m.map C4.c3, bs) epoch at_ b := rfl
  conv at hF => rhs; unfold writeF
  simp only at hF
  obtain ⟨bl, hbl2⟩ : ∃ bl, bl = b.length := ⟨_, rfl⟩
  rw [← hbl2] at hF hbl ⊢
  have HBl := Lib.hid hbl2
  clear N hC hby hfit hd hbl2
  by_cases h0 : at_ < 0
  · rw [if_pos (.inl h0)] at hF
    have HF := Lib.hid hF
    clear hF
    go_enter Tryz.func66, Tryz.ntmps66
    go_wp2_with fail
    go_ret
    rw [HF.out]
    exact AnsP.same HN.out (Below.refl _ _) 2
  · skip
    by_cases h1 : 4096 ≤ at_
    · rw [if_pos (.inr (.inl h1))] at hF
      have HF := Lib.hid hF
      clear hF
      go_enter Tryz.func66, Tryz.ntmps66
      go_wp2_with fail
      go_ret
      rw [HF.out]
      exact AnsP.same HN.out (Below.refl _ _) 2
    · skip
      by_cases h2 : epoch < 0
      · rw [if_pos (.inr (.inr (.inl h2)))] at hF
        have HF := Lib.hid hF
        clear hF
        go_enter Tryz.func66, Tryz.ntmps66
        go_wp2_with fail
        go_ret
        rw [HF.out]
        exact AnsP.same HN.out (Below.refl _ _) 2
      · skip
        by_cases h3 : 1048576 < epoch
        · rw [if_pos (.inr (.inr (.inr (.inl h3))))] at hF
          have HF := Lib.hid hF
          clear hF
          go_enter Tryz.func66, Tryz.ntmps66
          go_wp2_with fail
          go_ret
          rw [HF.out]
          exact AnsP.same HN.out (Below.refl _ _) 2
        · skip
          by_cases h4 : 2048 < bl
          · rw [if_pos (.inr (.inr (.inr (.inr h4))))] at hF
            have h4i : (2048 : Int) < (bl : Int) := by omega
            have HF := Lib.hid hF
            clear hF
            go_enter Tryz.func66, Tryz.ntmps66
            go_wp2_with fail
            go_ret
            rw [HF.out]
            exact AnsP.same HN.out (Below.refl _ _) 2
          · skip
            have h4i : ¬ (2048 : Int) < (bl : Int) := by omega
            rw [if_neg (fun e => e.elim h0 (fun e => e.elim h1 (fun e => e.elim h2 (fun e => e.elim h3 h4))))] at hF
            by_cases h5 : epoch < ep
            · rw [if_pos h5] at hF
              have HF := Lib.hid hF
              clear hF
              go_enter Tryz.func66, Tryz.ntmps66
              go_wp2_with fail
              go_ret
              rw [HF.out]
              exact AnsP.same HN.out (Below.refl _ _) 7
            · rw [if_neg h5] at hF
              have hlk := HN.out.lookup (a := at_) (w64_of (by omega) (by omega))
              have HLm := Lib.hid (look_map m at_)
              cases hlo : look4 m at_ with
              | none =>
                rw [hlo] at hlk
                simp only [val4, Option.elim, zero4, Option.isSome] at hlk
                have hlm : look (m.map C4.c3) at_ = none := by rw [HLm.out, hlo]; rfl
                rw [hlm] at hF
                simp only at hF
                have HF := Lib.hid hF
                have HB0 := Lib.hid ((Below.refl w.heap.size w).alloc (Nat.le_refl _) (.cells #[.int .i64 0, .int .i64 0, .slice none 0 0] 77))
                clear hF hlm hlo
                go_enter Tryz.func66, Tryz.ntmps66
                go_wp2_with fail
                refine (puint_calls none 0 [] 1 _ (Kd.C_nil _ _) (Nat.zero_le _) (by omega) (by omega) (by simp)).mono ?_
                rintro e w1 ⟨v1, rfl, R1, b1⟩
                obtain ⟨l1, hl1⟩ : ∃ l1, l1 = [] ++ uintW (1 : Int).toNat := ⟨_, rfl⟩
                rw [← hl1] at R1
                obtain ⟨A1, k1, rfl⟩ := Kd.R_slice R1
                obtain ⟨_, hc1, C1⟩ := Kd.R_reads' R1
                have HB1 := Lib.hid (below_step HB0.out b1)
                have hq1 : l1.length ≤ 1 := by rw [hl1]; exact Nat.le_refl _
                have hu2 := puint_calls A1 k1 l1 epoch w1 C1 hc1 (by omega) (by omega) (by omega)
                obtain ⟨n1, hn1⟩ : ∃ n1, n1 = l1.length := ⟨_, rfl⟩
                rw [← hn1] at hu2 ⊢
                have HL1 := Lib.hid hl1; have HQ1 := Lib.hid hq1
                clear hl1 hn1 R1 C1 hc1 b1 hq1
                go_wp2_with fail
                refine hu2.mono ?_
                rintro e w2 ⟨v2, rfl, R2, b2⟩
                obtain ⟨l2, hl2⟩ : ∃ l2, l2 = l1 ++ uintW epoch.toNat := ⟨_, rfl⟩
                rw [← hl2] at R2
                obtain ⟨A2, k2, rfl⟩ := Kd.R_slice R2
                obtain ⟨_, hc2, C2⟩ := Kd.R_reads' R2
                have HB2 := Lib.hid (below_step HB1.out b2)
                have hq2 : l2.length ≤ 4 := by have := HQ1.out; have := uintW_len epoch.toNat; rw [hl2, List.length_append]; omega
                have hu3 := puint_calls A2 k2 l2 at_ w2 C2 hc2 (by omega) (by omega) (by omega)
                obtain ⟨n2, hn2⟩ : ∃ n2, n2 = l2.length := ⟨_, rfl⟩
                rw [← hn2] at hu3 ⊢
                have HL2 := Lib.hid hl2; have HQ2 := Lib.hid hq2
                clear hu2 hl2 hn2 R2 C2 hc2 b2 hq2
                go_wp2_with fail
                refine hu3.mono ?_
                rintro e w3 ⟨v3, rfl, R3, b3⟩
                obtain ⟨l3, hl3⟩ : ∃ l3, l3 = l2 ++ uintW at_.toNat := ⟨_, rfl⟩
                rw [← hl3] at R3
                obtain ⟨A3, k3, rfl⟩ := Kd.R_slice R3
                obtain ⟨_, hc3, C3⟩ := Kd.R_reads' R3
                have HB3 := Lib.hid (below_step HB2.out b3)
                have hq3 : l3.length ≤ 7 := by have := HQ2.out; have := uintW_len at_.toNat; rw [hl3, List.length_append]; omega
                have hbs : b.length ≤ 2048 := by have := HBl.out; omega
                have hu4 := pbytes_calls A3 k3 l3 B d b w3 C3 hc3 (Kd.C_below HC.out HB3.out) HD.out (by omega) (by omega)
                obtain ⟨n3, hn3⟩ : ∃ n3, n3 = l3.length := ⟨_, rfl⟩
                rw [← hn3, ← HBl.out] at hu4
                rw [← hn3]
                have HL3 := Lib.hid hl3; have HBs := Lib.hid hbs
                clear hu3 hl3 hn3 R3 C3 hc3 b3 hq3 hbs
                go_wp2_with fail
                refine hu4.mono ?_
                rintro e w4 ⟨v4, rfl, R4, b4⟩
                obtain ⟨l4, hl4⟩ : ∃ l4, l4 = l3 ++ (uintW bl ++ b) := ⟨_, rfl⟩
                rw [← hl4] at R4
                obtain ⟨A4, k4, rfl⟩ := Kd.R_slice R4
                obtain ⟨_, hc4, C4'⟩ := Kd.R_reads' R4
                have HB4 := Lib.hid (below_step HB3.out b4)
                have hpay : l4 = writeP epoch.toNat at_.toNat b := by rw [hl4, HL3.out, HL2.out, HL1.out, HBl.out]; unfold writeP; rw [List.nil_append]; rfl
                have hpl := writeP_len epoch.toNat at_.toNat b (by omega) HBs.out
                have hfl := frame_len (writeP epoch.toNat at_.toNat b)
                have hno := note_calls (HN.out.below HB4.out) A4 k4 l4 (HN.out.fresh HB3.out.size R4) hc4 (by rw [hpay]; exact writeP_bytes _ _ _ (by omega) (by omega) HBs.out HBy.out) (by rw [hpay]; have := HBs.out; omega) (by rw [hpay]; have := HFit.out; omega)
                rw [hpay] at hno
                rw [← hpay] at hno
                obtain ⟨n4, hn4⟩ : ∃ n4, n4 = l4.length := ⟨_, rfl⟩
                rw [← hn4] at hno ⊢
                have HPay := Lib.hid hpay
                clear hu4 hl4 hn4 R4 C4' hc4 b4 hpay hpl hfl
                go_wp2_with fail
                refine hno.mono ?_
                rintro e w5 hP
                have hA := AnsP.note HB4.out hP
                rw [HPay.out] at hA
                obtain ⟨n', ep', m', rfl, hrest⟩ := hP
                have HA := Lib.hid hA
                clear hno hrest hA
                go_wp2_with fail
                go_ret
                rw [HF.out]
                exact HA.out
              | some z =>
                have hzm := (look4_mem hlo).1
                obtain ⟨hzc, hzC⟩ := HN.out.bytes hzm
                have hzl := (HN.out.rngc z hzm).2.2.1
                obtain ⟨za, ze, zb, zA, zc⟩ := z
                simp only at hzc hzC hzl
                rw [hlo] at hlk
                simp only [val4, Option.elim, agg4, Option.isSome] at hlk
                have hlm : look (m.map C4.c3) at_ = some (za, ze, zb) := by rw [HLm.out, hlo]; rfl
                rw [hlm] at hF
                simp only at hF
                obtain ⟨zl, hzl2⟩ : ∃ zl, zl = zb.length := ⟨_, rfl⟩
                rw [← hzl2] at hlk
                have HZl := Lib.hid hzl2
                have hgw := (Below.refl w.heap.size w).alloc (Nat.le_refl _) (.cells #[.int .i64 za, .int .i64 ze, .slice zA zl zc] 77)
                have HB0 := Lib.hid hgw
                by_cases h6 : epoch ≤ ze
                · rw [if_pos h6] at hF
                  by_cases h7 : ze = epoch
                  · have heq := equal_calls zA zc zb B d b (w.alloc (.cells #[.int .i64 za, .int .i64 ze, .slice zA zl zc] 77)) (Kd.C_below hzC hgw) hzc (Kd.C_below HC.out hgw) HD.out (by omega)
                    rw [← hzl2, ← HBl.out] at heq
                    have t7 : (ze == epoch) = true := beq_iff_eq.2 h7
                    by_cases h8 : zb = b
                    · rw [if_pos ⟨h7, h8⟩] at hF
                      rw [decide_eq_true h8] at heq
                      have HF := Lib.hid hF
                      clear hF hlm hlo hzm hzC hzl2 h7 h8 hgw hzc hzl
                      go_enter Tryz.func66, Tryz.ntmps66
                      go_wp2_with fail
                      refine heq.mono ?_
                      rintro e w2 ⟨rfl, hd2⟩
                      have HD2 := Lib.hid (below_step HB0.out hd2.below)
                      clear heq hd2
                      go_wp2_with fail
                      go_ret
                      rw [HF.out]
                      exact AnsP.same HN.out HD2.out 0
                    · rw [if_neg (fun h => h8 h.2)] at hF
                      rw [decide_eq_false h8] at heq
                      have HF := Lib.hid hF
                      clear hF hlm hlo hzm hzC hzl2 h7 h8 hgw hzc hzl
                      go_enter Tryz.func66, Tryz.ntmps66
                      go_wp2_with fail
                      refine heq.mono ?_
                      rintro e w2 ⟨rfl, hd2⟩
                      have HD2 := Lib.hid (below_step HB0.out hd2.below)
                      clear heq hd2
                      go_wp2_with fail
                      go_ret
                      rw [HF.out]
                      exact AnsP.same HN.out HD2.out 12
                  · rw [if_neg (fun h => h7 h.1)] at hF
                    have t7 : (ze == epoch) = false := beq_eq_false_iff_ne.2 h7
                    have HF := Lib.hid hF
                    clear hF hlm hlo hzm hzC hzl2 h7 hgw hzc hzl
                    go_enter Tryz.func66, Tryz.ntmps66
                    go_wp2_with fail
                    go_ret
                    rw [HF.out]
                    exact AnsP.same HN.out HB0.out 12
                · rw [if_neg h6] at hF
                  have HF := Lib.hid hF
                  clear hF hlm hlo hzm hzC hzl2 hgw hzc hzl
                  go_enter Tryz.func66, Tryz.ntmps66
                  go_wp2_with fail
                  refine (puint_calls none 0 [] 1 _ (Kd.C_nil _ _) (Nat.zero_le _) (by omega) (by omega) (by simp)).mono ?_
                  rintro e w1 ⟨v1, rfl, R1, b1⟩
                  obtain ⟨l1, hl1⟩ : ∃ l1, l1 = [] ++ uintW (1 : Int).toNat := ⟨_, rfl⟩
                  rw [← hl1] at R1
                  obtain ⟨A1, k1, rfl⟩ := Kd.R_slice R1
                  obtain ⟨_, hc1, C1⟩ := Kd.R_reads' R1
                  have HB1 := Lib.hid (below_step HB0.out b1)
                  have hq1 : l1.length ≤ 1 := by rw [hl1]; exact Nat.le_refl _
                  have hu2 := puint_calls A1 k1 l1 epoch w1 C1 hc1 (by omega) (by omega) (by omega)
                  obtain ⟨n1, hn1⟩ : ∃ n1, n1 = l1.length := ⟨_, rfl⟩
                  rw [← hn1] at hu2 ⊢
                  have HL1 := Lib.hid hl1; have HQ1 := Lib.hid hq1
                  clear hl1 hn1 R1 C1 hc1 b1 hq1
                  go_wp2_with fail
                  refine hu2.mono ?_
                  rintro e w2 ⟨v2, rfl, R2, b2⟩
                  obtain ⟨l2, hl2⟩ : ∃ l2, l2 = l1 ++ uintW epoch.toNat := ⟨_, rfl⟩
                  rw [← hl2] at R2
                  obtain ⟨A2, k2, rfl⟩ := Kd.R_slice R2
                  obtain ⟨_, hc2, C2⟩ := Kd.R_reads' R2
                  have HB2 := Lib.hid (below_step HB1.out b2)
                  have hq2 : l2.length ≤ 4 := by have := HQ1.out; have := uintW_len epoch.toNat; rw [hl2, List.length_append]; omega
                  have hu3 := puint_calls A2 k2 l2 at_ w2 C2 hc2 (by omega) (by omega) (by omega)
                  obtain ⟨n2, hn2⟩ : ∃ n2, n2 = l2.length := ⟨_, rfl⟩
                  rw [← hn2] at hu3 ⊢
                  have HL2 := Lib.hid hl2; have HQ2 := Lib.hid hq2
                  clear hu2 hl2 hn2 R2 C2 hc2 b2 hq2
                  go_wp2_with fail
                  refine hu3.mono ?_
                  rintro e w3 ⟨v3, rfl, R3, b3⟩
                  obtain ⟨l3, hl3⟩ : ∃ l3, l3 = l2 ++ uintW at_.toNat := ⟨_, rfl⟩
                  rw [← hl3] at R3
                  obtain ⟨A3, k3, rfl⟩ := Kd.R_slice R3
                  obtain ⟨_, hc3, C3⟩ := Kd.R_reads' R3
                  have HB3 := Lib.hid (below_step HB2.out b3)
                  have hq3 : l3.length ≤ 7 := by have := HQ2.out; have := uintW_len at_.toNat; rw [hl3, List.length_append]; omega
                  have hbs : b.length ≤ 2048 := by have := HBl.out; omega
                  have hu4 := pbytes_calls A3 k3 l3 B d b w3 C3 hc3 (Kd.C_below HC.out HB3.out) HD.out (by omega) (by omega)
                  obtain ⟨n3, hn3⟩ : ∃ n3, n3 = l3.length := ⟨_, rfl⟩
                  rw [← hn3, ← HBl.out] at hu4
                  rw [← hn3]
                  have HL3 := Lib.hid hl3; have HBs := Lib.hid hbs
                  clear hu3 hl3 hn3 R3 C3 hc3 b3 hq3 hbs
                  go_wp2_with fail
                  refine hu4.mono ?_
                  rintro e w4 ⟨v4, rfl, R4, b4⟩
                  obtain ⟨l4, hl4⟩ : ∃ l4, l4 = l3 ++ (uintW bl ++ b) := ⟨_, rfl⟩
                  rw [← hl4] at R4
                  obtain ⟨A4, k4, rfl⟩ := Kd.R_slice R4
                  obtain ⟨_, hc4, C4'⟩ := Kd.R_reads' R4
                  have HB4 := Lib.hid (below_step HB3.out b4)
                  have hpay : l4 = writeP epoch.toNat at_.toNat b := by rw [hl4, HL3.out, HL2.out, HL1.out, HBl.out]; unfold writeP; rw [List.nil_append]; rfl
                  have hpl := writeP_len epoch.toNat at_.toNat b (by omega) HBs.out
                  have hfl := frame_len (writeP epoch.toNat at_.toNat b)
                  have hno := note_calls (HN.out.below HB4.out) A4 k4 l4 (HN.out.fresh HB3.out.size R4) hc4 (by rw [hpay]; exact writeP_bytes _ _ _ (by omega) (by omega) HBs.out HBy.out) (by rw [hpay]; have := HBs.out; omega) (by rw [hpay]; have := HFit.out; omega)
                  rw [hpay] at hno
                  rw [← hpay] at hno
                  obtain ⟨n4, hn4⟩ : ∃ n4, n4 = l4.length := ⟨_, rfl⟩
                  rw [← hn4] at hno ⊢
                  have HPay := Lib.hid hpay
                  clear hu4 hl4 hn4 R4 C4' hc4 b4 hpay hpl hfl
                  go_wp2_with fail
                  refine hno.mono ?_
                  rintro e w5 hP
                  have hA := AnsP.note HB4.out hP
                  rw [HPay.out] at hA
                  obtain ⟨n', ep', m', rfl, hrest⟩ := hP
                  have HA := Lib.hid hA
                  clear hno hrest hA
                  go_wp2_with fail
                  go_ret
                  rw [HF.out]
                  exact HA.out
end Go.Proofs.YtiinelmednbpmaaGreat.Slot
/- The walks of Read and Epoch. -/
namespace Go.Proofs.YtiinelmednbpmaaGreat.Slot
open Go.RowKit Go.Maps Go.Proofs.YtiinelmednbpmaaGreatW.PrintWords Go.Proofs.YtiinelmednbpmaaGreatW.PrintMore Go.Proofs.YtiinelmednbpmaaGreat.Row Go.Proofs.YtiinelmednbpmaaGreat.Cut Go.Proofs.YtiinelmednbpmaaGreat.DiskM Go.Proofs.YtiinelmednbpmaaGreat.Quor
def readF (m : List B3) (a : Int) : Int × B3 := match look m a with
  | none => (6, (0, 0, []))
  | some c => (0, c)
def ReadP (w : World) (r : Int × B3) (e : Ending) (w' : World) : Prop := ∃ z : C4, e = .returned (.tuple #[agg4 z, .int .i64 r.1]) ∧ z.c3 = r.2 ∧ OwnB w' w.heap.size z ∧ Below w.heap.size w w'
end Go.Proofs.YtiinelmednbpmaaGreat.Slot

/- The walk of Tail. -/
namespace Go.Proofs.YtiinelmednbpmaaGreat.Slot
open Go.RowKit Go.Maps Go.Proofs.YtiinelmednbpmaaGreatW.PrintWords Go.Proofs.YtiinelmednbpmaaGreatW.PrintMore Go.Proofs.YtiinelmednbpmaaGreat.Row Go.Proofs.YtiinelmednbpmaaGreat.Cut Go.Proofs.YtiinelmednbpmaaGreat.DiskM Go.Proofs.YtiinelmednbpmaaGreat.Quor
structure II where
  a : Int
structure VV where
  a : Int
  e : Int
  A : Option Addr
  n : Nat
  c : Nat
theorem RC4_shape {v : Value} {y : DataW Value × List MemPlace} (h : RC4 v = some y) : ∃ x : VV, v = .agg #[.int .i64 x.a, .int .i64 x.e, .slice x.A x.n x.c] := by
  unfold RC4 at h
  split at h
  · rename_i a e A n c
    exact ⟨⟨a, e, A, n, c⟩, rfl⟩
  · cases h
theorem same_int {a c : Int} (hc : W64 c) : (Lit.int .i64 c).sameKey (.int .i64 a) = decide (c = a) := by
  by_cases h : c = a
  · subst h; rw [WideAt.sameKey_self (isKeyI hc), decide_eq_true rfl]
  · rw [decide_eq_false h]
    exact Maps.sameKey_ne fun e => h (by injection e)
/-- One more than the greatest slot. -/
def IsTail (m : List B3) (t : Int) : Prop := 0 ≤ t ∧ (∀ c ∈ m, c.1 + 1 ≤ t) ∧ (t = 0 ∨ ∃ c ∈ m, c.1 + 1 = t)
theorem IsTail.uniq {m : List B3} {t t' : Int} (h : IsTail m t) (h' : IsTail m t') : t = t' := by
  obtain ⟨a1, a2, a3⟩ := h
  obtain ⟨b1, b2, b3⟩ := h'
  have h1 : t ≤ t' := by
    rcases a3 with e | ⟨c, hc, e⟩
    · omega
    · have := b2 c hc; omega
  have h2 : t' ≤ t := by
    rcases b3 with e | ⟨c, hc, e⟩
    · omega
    · have := a2 c hc; omega
  omega
/-- So far: of the slots that are no longer to come. -/
def TailI (m : List C4) (left : Lit → Bool) (t : Int) : Prop := 0 ≤ t ∧ t ≤ 4096 ∧ (∀ c ∈ m, left (.int .i64 c.at_) = false → c.at_ + 1 ≤ t) ∧ (t = 0 ∨ ∃ c ∈ m, c.at_ + 1 = t)
theorem look4_some {m : List C4} {c : C4} (h : c ∈ m) : (look4 m c.at_).isSome = true := by
  unfold look4
  rw [List.find?_isSome]
  exact ⟨c, h, decide_eq_true rfl⟩
theorem TailI.start {D : DataW Value} {m : List C4} (h : Agr D m) (hm : ∀ c ∈ m, 0 ≤ c.at_ ∧ c.at_ ≤ 4095) : TailI m (Maps.has D) 0 := by
  refine ⟨Int.le_refl _, by decide, fun c hc hl => ?_, .inl rfl⟩
  have := hm c hc
  rw [(h.2.2 c.at_ (w64_of (by omega) (by omega))).2, look4_some hc] at hl
  cases hl
theorem TailI.step {m : List C4} {left : Lit → Bool} {t : Int} (h : TailI m left t) (hm : ∀ c ∈ m, 0 ≤ c.at_ ∧ c.at_ ≤ 4095) {z : C4} (hz : z ∈ m) : TailI m (fun k => left k && !k.sameKey (.int .i64 z.at_)) (max t (z.at_ + 1)) := by
  obtain ⟨h1, h2, h3, h4⟩ := h
  have hzr := hm z hz
  refine ⟨by omega, by omega, fun c hc hl => ?_, ?_⟩
  · have hcr := hm c hc
    simp only [same_int (a := z.at_) (c := c.at_) (w64_of (by omega) (by omega))] at hl
    by_cases e : c.at_ = z.at_
    · omega
    · rw [decide_eq_false e] at hl
      have := h3 c hc (by simpa using hl)
      omega
  · by_cases e : t ≤ z.at_ + 1
    · exact .inr ⟨z, hz, by omega⟩
    · rcases h4 with e4 | ⟨c, hc, e4⟩
      · exact .inl (by omega)
      · exact .inr ⟨c, hc, by omega⟩
theorem TailI.done {m : List C4} {left : Lit → Bool} {t : Int} (h : TailI m left t) (hl : ∀ k, left k = false) : IsTail (m.map C4.c3) t := by
  obtain ⟨h1, h2, h3, h4⟩ := h
  refine ⟨h1, fun c hc => ?_, h4.imp id fun ⟨c, hc, e⟩ => ⟨c.c3, List.mem_map_of_mem hc, e⟩⟩
  obtain ⟨z, hz, rfl⟩ := List.mem_map.1 hc
  exact h3 z hz (hl _)
/-- What the map has at a key that came. -/
theorem Agr.entry {D : DataW Value} {m : List C4} (h : Agr D m) {a : Int} (ha : W64 a) {v : Value} (hat : ∀ zd, D.atKey (.int .i64 a) zd = .held v) : ∃ z ∈ m, z.at_ = a ∧ v = agg4 z := by
  have h1 := (h.2.2 a ha).1
  rw [hat] at h1
  injection h1 with h1
  have h2 := (h.2.2 a ha).2
  rw [has_true_of_atKey hat] at h2
  obtain ⟨z, hz⟩ := Option.isSome_iff_exists.1 h2.symm
  rw [hz] at h1
  obtain ⟨q1, q2⟩ := look4_mem hz
  exact ⟨z, q1, q2, h1⟩
def TailP (w : World) (m : List B3) (e : Ending) (w' : World) : Prop := ∃ t, e = .returned (.int .i64 t) ∧ IsTail m t ∧ Below w.heap.size w w'
end Go.Proofs.YtiinelmednbpmaaGreat.Slot

/- The sort of cells by their slots. -/
namespace Go.Proofs.YtiinelmednbpmaaGreat.Slot
open Go.Shelf Go.RowKit Go.Lib Go.Sort Go.Proofs Go.Proofs.YtiinelmednbpmaaGreatW.PrintWords Go.Proofs.YtiinelmednbpmaaGreat.Quor
shelf_lay_g SlLaysF0.n6 Slsf 6 at Tryz 59 as Tryz.sortCell
/-- A cell whose slot may be. -/
abbrev B4 := {z : C4 // 0 ≤ z.at_ ∧ z.at_ ≤ 4095}
instance : Inhabited B4 := ⟨⟨⟨0, 0, [], none, 0⟩, by decide, by decide⟩⟩
def encB (x : B4) : List Value := enc4 x.1
theorem encB_len (x : B4) : (encB x).length = 3 := rfl
theorem encB_one (x : B4) : ∀ v ∈ encB x, v.oneCell' = true := enc4_one x.1
def cfB (x y : B4) : Int := x.1.at_ - y.1.at_
theorem cfB_lt (x y : B4) : cfB x y < 0 ↔ x.1.at_ < y.1.at_ := by unfold cfB; omega
set_option maxHeartbeats 1000000 in
theorem clo_calls (x y : B4) (W : World) : Calls Tryz.prog 60 #[.agg #[.int .i64 x.1.at_, .int .i64 x.1.ep, .slice x.1.A x.1.by_.length x.1.c], .agg #[.int .i64 y.1.at_, .int .i64 y.1.ep, .slice y.1.A y.1.by_.length y.1.c]] W fun e w' => e = .returned (.int .i64 (cfB x y)) ∧ ∃ q os', w' = grow (W.drewN q) os' := by
  obtain ⟨⟨x1, x2, x3, x4, x5⟩, xr0, xr1⟩ := x
  obtain ⟨⟨y1, y2, y3, y4, y5⟩, yr0, yr1⟩ := y
  unfold cfB
  simp only at xr0 xr1 yr0 yr1 ⊢
  have fin : ∃ q os', (W.alloc (.cells #[.int .i64 x1, .int .i64 x2, .slice x4 x3.length x5] 77)).alloc (.cells #[.int .i64 y1, .int .i64 y2, .slice y4 y3.length y5] 77) = grow (W.drewN q) os' := ⟨0, _, by rw [alloc_eq_grow, alloc_eq_grow, grow_grow]; rfl⟩
  have F := Lib.hid fin
  clear fin
  go_enter Tryz.func60, Tryz.ntmps60
  go_wp2
  go_ret
  exact ⟨rfl, F.out⟩
theorem fm_len (l : List B4) : (l.flatMap encB).length = l.length * 3 := by
  induction l with
  | nil => rfl
  | cons x r ih => rw [List.flatMap_cons, List.length_append, ih, encB_len, List.length_cons]; omega
theorem fm_get : ∀ (l : List B4) (t : Nat), (l.flatMap encB)[t]? = (l[t / 3]?).bind fun x => (encB x)[t % 3]?
  | [], t => by simp
  | x :: r, t => by
    rw [List.flatMap_cons]
    by_cases h : t < 3
    · rw [List.getElem?_append_left (by rw [encB_len]; exact h), Nat.div_eq_of_lt h, Nat.mod_eq_of_lt h]; rfl
    · rw [List.getElem?_append_right (by rw [encB_len]; omega), encB_len, fm_get r (t - 3)]
      have e1 : (t - 3) / 3 = t / 3 - 1 := by omega
      have e2 : (t - 3) % 3 = t % 3 := by omega
      have e3 : t / 3 = (t / 3 - 1) + 1 := by omega
      rw [e1, e2]
      conv => rhs; rw [e3, List.getElem?_cons_succ]
theorem fm_drop : ∀ (l : List B4) (j : Nat) (p : B4), l[j]? = some p → ((l.flatMap encB).drop (j * 3)).take 3 = encB p
  | [], j, p, h => by simp at h
  | x :: r, 0, p, h => by
    obtain rfl : x = p := by simpa using h
    rw [List.flatMap_cons, Nat.zero_mul, List.drop_zero]
    exact List.take_left' (encB_len x)
  | x :: r, j + 1, p, h => by
    rw [List.flatMap_cons, Nat.succ_mul, Nat.add_comm, ← List.drop_drop, List.drop_left' (encB_len x)]
    exact fm_drop r j p (by simpa using h)
theorem flat_list (d : Array B4) : (flatK encB 3 d).toList = d.toList.flatMap encB := by
  apply List.ext_getElem?
  intro t
  rw [fm_get]
  by_cases h : t < d.size * 3
  · have h2' : t / 3 < d.size := by omega
    have hm : t % 3 < 3 := Nat.mod_lt _ (by decide)
    rw [List.getElem?_eq_getElem (l := d.toList) (by rw [Array.length_toList]; exact h2'), Option.bind_some]
    have e : (flatK encB 3 d).toList[t]? = some ((encB d[t / 3]!)[t % 3]!) := by
      simp [flatK, h]
    rw [e, getElem!_pos d (t / 3) h2', getElem!_pos _ (t % 3) (by rw [encB_len]; exact hm), List.getElem?_eq_getElem (by rw [encB_len]; exact hm)]
    rfl
  · rw [List.getElem?_eq_none (by simp; omega), List.getElem?_eq_none (l := d.toList) (by simp; omega)]; rfl
theorem flat_size (d : Array B4) : (flatK encB 3 d).size = d.size * 3 := size_flatK _ _ _
theorem holds2_ {w : World} {g : Nat} {cur : Array Value} {e : TypeId} {l : List B4} (hb : w.heap[g]? = some (.cells cur e (0, 0))) (ht : cur.toList.take (l.length * 3) = l.flatMap encB) : HoldsK encB 3 w g 0 l.toArray := by
  intro j hj
  have hj' : j < l.length * 3 := by rw [flat_size] at hj; simpa using hj
  refine ⟨?_, by simp [World.frozen?, hb]⟩
  have h1 : (cur.toList.take (l.length * 3))[j]? = (flatK encB 3 l.toArray).toList[j]? := by rw [ht, flat_list]
  rw [List.getElem?_take_of_lt hj', List.getElem?_eq_getElem (l := (flatK encB 3 l.toArray).toList) (by simpa using hj)] at h1
  simp only [World.cell?, hb, Nat.zero_add]
  simp only [Option.isSome_none, Bool.false_eq_true, if_false]
  rw [← Array.getElem?_toList, h1, getElem!_pos _ j hj]
  rfl
theorem heap2_ {w : World} {g n : Nat} {os : Array Obj} {cur : Array Value} {e : TypeId} {fr : Nat × Nat} (d : Array B4) (hb : w.heap[g]? = some (.cells cur e fr)) :
    (sortWorldK encB 3 w g 0 n d os).heap[g]? = some (.cells (putCells id 0 (flatK encB 3 d) cur) e fr) := by
  have hg : g < w.heap.size := (Array.getElem?_eq_some_iff.1 hb).1
  unfold sortWorldK putRowK
  rw [heap_grow_old _ _ (by simpa using hg)]
  simp [putRow, mapBlock, Sort.ahead, Array.getElem?_modify, hb, onCells]
theorem grown2_ {w : World} {g n : Nat} {os : Array Obj} (d : Array B4) : w.grownBy (sortWorldK encB 3 w g 0 n d os) (some g) := by
  unfold sortWorldK putRowK
  refine ⟨rfl, rfl, rfl, by simp, fun k hk hne => ?_⟩
  rw [heap_grow_old _ _ (by simpa using hk)]
  have : g ≠ k := fun e => hne (by rw [e])
  simp [putRow, mapBlock, Sort.ahead, Array.getElem?_modify, this]
theorem take2_ (cur : Array Value) (ys : List Value) (F : Array Value) (hF : F.toList = ys) (h : ys.length ≤ cur.size) : (putCells id 0 F cur).toList.take ys.length = ys := by
  subst hF
  apply List.ext_getElem?
  intro j
  by_cases hj : j < F.size
  · rw [List.getElem?_take_of_lt (by simpa using hj), Array.getElem?_toList]
    simp at h
    simp [putCells, hj, show j < cur.size by omega]
  · rw [List.getElem?_take_eq_none (by simp; omega), List.getElem?_eq_none (by simp; omega)]
theorem own2_ {w : World} {base g cap n : Nat} {e : TypeId} {os : Array Obj} {cur : Array Value} {m : Nat} (d : Array B4) (hd : d.size = m) (hbase : base ≤ g) (hb : w.heap[g]? = some (.cells cur e (0, 0))) (h1 : m ≤ cap) (h2 : cap ≤ maxLen) (h3 : cur.size = cap * 3) :
    (sortWorldK encB 3 w g 0 n d os).ownsRow base e 3 (.slice (some ⟨g, 0, none⟩) m cap) m (d.toList.flatMap encB) := by
  have hl : (d.toList.flatMap encB).length = m * 3 := by rw [fm_len]; simp [hd]
  refine ⟨hl, .inr ⟨g, cap, _, rfl, hbase, heap2_ d hb, h1, h2, by simp [putCells, h3], ?_⟩⟩
  rw [← hl]
  exact take2_ cur _ _ (flat_list d) (by rw [hl, h3]; exact Nat.mul_le_mul_right _ h1)
theorem ltB (x y : B4) : ltOf cfB x y = decide (x.1.at_ < y.1.at_) := by
  unfold ltOf
  by_cases h : x.1.at_ < y.1.at_
  · rw [decide_eq_true h, decide_eq_true ((cfB_lt x y).2 h)]
  · rw [decide_eq_false h, decide_eq_false (fun h' => h ((cfB_lt x y).1 h'))]
theorem swoB : SWO (ltOf cfB) where
  irrefl x := by rw [ltB]; exact decide_eq_false (Int.lt_irrefl _)
  trans x y z h1 h2 := by
    rw [ltB] at *
    exact decide_eq_true (Int.lt_trans (of_decide_eq_true h1) (of_decide_eq_true h2))
  ntrans x y z h1 h2 := by
    rw [ltB] at *
    have h1 := of_decide_eq_false h1
    have h2 := of_decide_eq_false h2
    exact decide_eq_false (by omega)
theorem perm2_ {d d' : Array B4} (h : PermIn 0 d.size d d') : d'.size = d.size ∧ d'.toList.Perm d.toList := by
  obtain ⟨h1, _, h3⟩ := h
  refine ⟨h1, ?_⟩
  have e : d'.extract 0 d.size = d' := by rw [← h1]; exact Array.extract_size
  rwa [e, Array.extract_size] at h3
theorem sorted2_ {d' : Array B4} {n : Nat} (hn : d'.size = n) (h : SortedIn (ltOf cfB) 0 n d') : d'.toList.Pairwise fun a b => ¬ b.1.at_ < a.1.at_ := by
  rw [List.pairwise_iff_getElem]
  intro i j hi hj hij
  have hi' : i < d'.size := by simpa using hi
  have hj' : j < d'.size := by simpa using hj
  have := h i j (Nat.zero_le _) hij (by omega)
  rw [ltB, getElem!_pos d' i hi', getElem!_pos d' j hj'] at this
  exact of_decide_eq_false this
theorem isAggC (w : World) : (isAgg 77).run Tryz.prog w = .ok true w := by have h := Tryz.isAgg77; exact h w
theorem sizeC_ (w : World) : (Go.sizeOf 77).run Tryz.prog w = .ok 3 w := by have h := Tryz.sizeOf77; exact h w
/-- The sort at a row of the call's own. -/
theorem sort_calls (v : Value) (out : List B4) (w : World) (base : Nat) (hown : w.ownsRow base 77 3 v out.length (out.flatMap encB)) (hn : out.length ≤ 1000000) :
    Calls Tryz.prog 59 #[v, .func (.func 60) #[] #[]] w fun e w' => e = .returned (.tuple #[]) ∧ ∃ out' : List B4, out'.Perm out ∧ (out'.Pairwise fun a b => ¬ b.1.at_ < a.1.at_) ∧ w'.ownsRow base 77 3 v out'.length (out'.flatMap encB) ∧ w.grownBy w' v.ownBlock := by
  obtain ⟨hlen, hown⟩ := hown
  rcases hown with ⟨rfl, h0⟩ | ⟨g, cap, cur, rfl, hbase, hb, h1, h2, h3, h4⟩
  · have hnil : out = [] := List.length_eq_zero_iff.1 h0
    subst hnil
    have hcon := AnyF.slices_SortFunc_none { Tryz.sortCell with } none 0 (.func (.func 60) #[] #[]) w
    refine hcon.mono ?_
    rintro e w' ⟨rfl, rfl⟩
    exact ⟨rfl, [], .refl _, .nil, ⟨rfl, .inl ⟨rfl, rfl⟩⟩, World.grownBy.refl _ _⟩
  · have eg : ∀ args w, (callFunc 60 args).run Tryz.prog w = .ok (.enter 60 args) w := enters_of Tryz.func60 (by kernel_rfl) rfl
    have hg : g < w.heap.size := (Array.getElem?_eq_some_iff.1 hb).1
    have hsz : out.toArray.size = out.length := by simp
    have hcon := AnyQ.slices_SortFunc Tryz.sortCell 3 isAggC sizeC_ encB encB_len encB_one cfB swoB 60 #[] g 0 cap out.toArray w eg (fun _ _ _ _ x y => clo_calls x y _) (holds2_ hb h4) hg (by rw [hsz]; omega)
    rw [hsz] at hcon
    refine hcon.mono ?_
    rintro e w' ⟨rfl, d', n, os, hp, hs, rfl⟩
    have hp' : PermIn 0 out.toArray.size out.toArray d' := by rw [hsz]; exact hp
    obtain ⟨q1, q2⟩ := perm2_ hp'
    rw [hsz] at q1
    have ho := own2_ (w := w) (n := n) (os := os) (base := base) d' q1 hbase hb h1 h2 h3
    have q3 : d'.toList.length = out.length := by simpa using q1
    refine ⟨rfl, d'.toList, by simpa using q2, sorted2_ q1 hs, ?_, grown2_ d'⟩
    rw [q3]; exact ho
end Go.Proofs.YtiinelmednbpmaaGreat.Slot
/- The walk of Seal. -/
namespace Go.Proofs.YtiinelmednbpmaaGreat.Slot
open Go.RowKit Go.Maps Go.Proofs.YtiinelmednbpmaaGreatW.PrintWords Go.Proofs.YtiinelmednbpmaaGreatW.PrintMore Go.Proofs.YtiinelmednbpmaaGreat.Row Go.Proofs.YtiinelmednbpmaaGreat.Cut Go.Proofs.YtiinelmednbpmaaGreat.DiskM Go.Proofs.YtiinelmednbpmaaGreat.Quor
open Go.Proofs.YtiinelmednbpmaaGreat.PWrite (puint_calls uintW uintW_len)
open Go.Proofs.YtiinelmednbpmaaGreat.Crc (frameF)
theorem sort4_calls (v : Value) (out : List C4) (hb : ∀ z ∈ out, 0 ≤ z.at_ ∧ z.at_ ≤ 4095) (w : World) (base : Nat) (hown : w.ownsRow base 77 3 v out.length (out.flatMap enc4)) (hn : out.length ≤ 1000000) :
    Calls Tryz.prog 59 #[v, .func (.func 60) #[] #[]] w fun e w' => e = .returned (.tuple #[]) ∧ ∃ out' : List C4, out'.Perm out ∧ (out'.Pairwise fun a b => ¬ b.at_ < a.at_) ∧ w'.ownsRow base 77 3 v out'.length (out'.flatMap enc4) ∧ w.grownBy w' v.ownBlock := by
  obtain ⟨ob, hob⟩ : ∃ ob : List B4, ob.map Subtype.val = out := ⟨out.attach.map fun z => ⟨z.1, hb z.1 z.2⟩, by rw [List.map_map]; exact List.attach_map_subtype_val out⟩
  have hfl : ∀ l : List B4, l.flatMap encB = (l.map Subtype.val).flatMap enc4 := fun l => by rw [List.flatMap_map]; rfl
  have hlen : ob.length = out.length := by rw [← hob, List.length_map]
  rw [← hob, ← hfl, hob, ← hlen] at hown
  refine (sort_calls v ob w base hown (by omega)).mono ?_
  rintro e w' ⟨rfl, ob', hp, hs, ho, hg⟩
  refine ⟨rfl, ob'.map Subtype.val, by rw [← hob]; exact hp.map _, List.pairwise_map.2 hs, ?_, hg⟩
  rw [List.length_map, ← hfl]
  exact ho
theorem K4_inner' {w : World} {base : Nat} {v : Value} {out : List C4} {ok : Nat → Prop} (h : K4.R 77 w base ok v out) : w.ownsRow base 77 3 v out.length (out.flatMap enc4) := by
  obtain ⟨_, inner, hown, hl, hr⟩ := h
  have hin : inner = out.flatMap enc4 := by
    have e1 : K4.sz = 3 := rfl
    rw [e1] at hl hr
    clear hown
    induction out generalizing inner with
    | nil => simpa using hl
    | cons x r ih =>
      have h0 := hr 0 x rfl
      have h0 : (inner.drop (0 * 3)).take 3 = enc4 x := h0
      rw [Nat.zero_mul, List.drop_zero] at h0
      have hi : inner.drop 3 = r.flatMap enc4 := ih (inner.drop 3) (by rw [List.length_drop, hl, List.length_cons]; omega) (fun j p hj => by
        have h1 := hr (j + 1) p (by simpa using hj)
        rw [List.drop_drop]
        rwa [show 3 + j * 3 = (j + 1) * 3 from by omega])
      rw [List.flatMap_cons, ← h0, ← hi, List.take_append_drop]
  rw [← hin]
  exact hown
theorem K4_own {w : World} {base : Nat} {v : Value} {out : List C4} (h : w.ownsRow base 77 3 v out.length (out.flatMap enc4)) : K4.R 77 w base (fun _ => True) v out := by
  refine ⟨fun _ _ => trivial, _, h, ?_, fun j p hj => ?_⟩
  · have : ∀ l : List C4, (l.flatMap enc4).length = l.length * 3 := fun l => by
      induction l with
      | nil => rfl
      | cons x r ih => rw [List.flatMap_cons, List.length_append, ih, enc4_len, List.length_cons]; omega
    exact this out
  · have : ∀ (l : List C4) (j : Nat) (p : C4), l[j]? = some p → ((l.flatMap enc4).drop (j * 3)).take 3 = enc4 p := by
      intro l
      induction l with
      | nil => intro j p h; simp at h
      | cons x r ih =>
        intro j p h
        cases j with
        | zero =>
          obtain rfl : x = p := by simpa using h
          rw [List.flatMap_cons, Nat.zero_mul, List.drop_zero]
          exact List.take_left' (enc4_len x)
        | succ j =>
          rw [List.flatMap_cons, Nat.succ_mul, Nat.add_comm, ← List.drop_drop, List.drop_left' (enc4_len x)]
          exact ih j p (by simpa using h)
    exact this out j p hj
theorem OwnB.low {w : World} {base base' : Nat} {z : C4} (h : OwnB w base z) (hb : base' ≤ base) : OwnB w base' z := Kd.R_lower h hb
theorem OwnB.below {w w' : World} {base : Nat} {z : C4} (h : OwnB w base z) (hb : Below w.heap.size w w') : OwnB w' base z := Kd.R_below h hb
theorem OwnB.kept {w w' : World} {base base' : Nat} {z : C4} {v : Value} {xs : List C4} {ok : Nat → Prop} (h : OwnB w base z) (hv : K4.R 77 w base' ok v xs) (hg : w.grownBy w' v.ownBlock) : OwnB w' base z := by
  refine Kd.R_mono (Kd.R_grown (Kd.R_tight rfl h) hg (fun k hk e => ?_)) (fun _ _ => trivial)
  obtain ⟨c1, h1⟩ := Kd.R_typed h k hk.symm
  obtain ⟨c2, h2⟩ := Kd.R_typed hv k e.symm
  rw [h1] at h2
  injection h2 with h2
  injection h2 with _ h2
  exact absurd h2 (by decide)
theorem R_grown_obj {α : Type} {d : Kd α} {e base b : Nat} {w w' : World} {ok : Nat → Prop} {v : Value} {xs : List α} {o : Obj} (hE : d.E = []) (h : d.R e w base ok v xs) (hb : w.heap[b]? = some o) (ho : ∀ c t f, o ≠ .cells c t f) (hg : w.grownBy w' (some b)) : d.R e w' base (fun _ => True) v xs := by
  refine Kd.R_mono (Kd.R_grown (Kd.R_tight hE h) hg (fun k hk e1 => ?_)) (fun _ _ => trivial)
  obtain ⟨c1, h1⟩ := Kd.R_typed h k hk.symm
  have := Option.some.inj e1
  subst this
  rw [hb] at h1
  exact ho _ _ _ (Option.some.inj h1)
theorem iter_obj {w : World} {b r n : Nat} {D : DataW Value} {left : Lit → Bool} {cnt : Nat} (h : w.ranges Tryz.prog 3 RC4 b r n D left cnt) : ∃ o, w.heap[r]? = some o ∧ ∀ c t f, o ≠ .cells c t f := by
  obtain ⟨_, _, _, _, _, _, _, _, _, hit, _⟩ := h
  exact ⟨_, hit, fun _ _ _ => by intro h; cases h⟩
theorem iter_ne_row {w : World} {b r n base : Nat} {D : DataW Value} {left : Lit → Bool} {cnt : Nat} {v : Value} {xs : List C4} {ok : Nat → Prop} (h : w.ranges Tryz.prog 3 RC4 b r n D left cnt) (hr : K4.R 77 w base ok v xs) : some r ≠ v.ownBlock := by
  obtain ⟨o, ho, hn⟩ := iter_obj h
  intro e
  obtain ⟨cells, hc⟩ := Kd.R_typed hr r e.symm
  rw [ho] at hc
  exact hn _ _ _ (Option.some.inj hc)
theorem map_ne_row4 {w : World} {b r n base : Nat} {D : DataW Value} {left : Lit → Bool} {cnt : Nat} {v : Value} {xs : List C4} {ok : Nat → Prop} (h : w.ranges Tryz.prog 3 RC4 b r n D left cnt) (hr : K4.R 77 w base ok v xs) : some b ≠ v.ownBlock := by
  obtain ⟨es, clock, hb, _⟩ := h.owns
  intro e
  obtain ⟨cells, hc⟩ := Kd.R_typed hr b e.symm
  rw [hb] at hc
  cases hc
theorem Once.uniq : ∀ {m : List B3}, Once m → ∀ {a b : B3}, a ∈ m → b ∈ m → a.1 = b.1 → a = b
  | x :: r, h, a, b, ha, hb, e => by
    obtain ⟨h1, h2⟩ := List.pairwise_cons.1 h
    rcases List.mem_cons.1 ha with ha' | ha'
    · rcases List.mem_cons.1 hb with hb' | hb'
      · rw [ha', hb']
      · exact absurd (by rw [← ha']; exact e) (h1 b hb')
    · rcases List.mem_cons.1 hb with hb' | hb'
      · exact absurd (by rw [← hb']; exact e.symm) (h1 a ha')
      · exact Once.uniq h2 ha' hb' e
/-- What was collected so far. -/
def CollS (m : List C4) (left : Lit → Bool) (out : List C4) : Prop :=
  (out.map C4.at_).Nodup ∧ ∀ c : B3, c ∈ out.map C4.c3 ↔ c ∈ m.map C4.c3 ∧ left (.int .i64 c.1) = false
theorem CollS.start {D : DataW Value} {m : List C4} (h : Agr D m) (hm : ∀ c ∈ m, 0 ≤ c.at_ ∧ c.at_ ≤ 4095) : CollS m (Maps.has D) [] := by
  refine ⟨List.nodup_nil, fun c => ⟨fun h => (by cases h), fun ⟨h1, h2⟩ => ?_⟩⟩
  obtain ⟨z, hz, rfl⟩ := List.mem_map.1 h1
  have := hm z hz
  rw [show (z.c3).1 = z.at_ from rfl, (h.2.2 z.at_ (w64_of (by omega) (by omega))).2, look4_some hz] at h2
  cases h2
theorem CollS.step {m out : List C4} {left : Lit → Bool} (h : CollS m left out) (ho : Once (m.map C4.c3)) (hm : ∀ c ∈ m, 0 ≤ c.at_ ∧ c.at_ ≤ 4095) {z z' : C4} (hz : z ∈ m) (hl : left (.int .i64 z.at_) = true) (hc : z'.c3 = z.c3) :
    CollS m (fun k => left k && !k.sameKey (.int .i64 z.at_)) (out ++ [z']) := by
  have hza : z'.at_ = z.at_ := congrArg Prod.fst hc
  have hw : ∀ c ∈ m, W64 c.at_ := fun c hc => by have := hm c hc; exact w64_of (by omega) (by omega)
  have hnot : ∀ c ∈ out.map C4.c3, c.1 ≠ z.at_ := by
    intro c hcm e
    have := ((h.2 c).1 hcm).2
    rw [e, hl] at this; cases this
  refine ⟨?_, fun c => ?_⟩
  · rw [List.map_append]
    refine List.nodup_append.2 ⟨h.1, by simp, fun p hp q hq => ?_⟩
    obtain rfl : q = z'.at_ := by simpa using hq
    obtain ⟨y, hy, rfl⟩ := List.mem_map.1 hp
    rw [hza]
    exact hnot y.c3 (List.mem_map_of_mem hy)
  · rw [List.map_append, List.mem_append, h.2 c]
    constructor
    · rintro (⟨h1, h2⟩ | hcm)
      · exact ⟨h1, by simp [h2]⟩
      · obtain rfl : c = z'.c3 := by simpa using hcm
        rw [hc]
        refine ⟨List.mem_map_of_mem hz, ?_⟩
        simp only [show z.c3.1 = z.at_ from rfl, same_int (a := z.at_) (hw z hz), decide_true, Bool.not_true, Bool.and_false]
    · rintro ⟨h1, h2⟩
      obtain ⟨y, hy, rfl⟩ := List.mem_map.1 h1
      simp only [show y.c3.1 = y.at_ from rfl, same_int (a := z.at_) (hw y hy)] at h2
      by_cases e : y.at_ = z.at_
      · right
        have heq : y.c3 = z.c3 := Once.uniq ho (List.mem_map_of_mem hy) (List.mem_map_of_mem hz) e
        rw [heq, ← hc]; simp
      · left
        rw [decide_eq_false e] at h2
        refine ⟨h1, ?_⟩
        show left (.int .i64 y.at_) = false
        simpa using h2
/-- A list of all cells, by rising slots. -/
def IsAll (m : List B3) (out : List C4) : Prop := (∀ c : B3, c ∈ out.map C4.c3 ↔ c ∈ m) ∧ out.Pairwise fun a b => a.at_ < b.at_
theorem CollS.done {m out out' : List C4} {left : Lit → Bool} (h : CollS m left out) (hl : ∀ k, left k = false) (hp : out'.Perm out) (hs : out'.Pairwise fun a b => ¬ b.at_ < a.at_) : IsAll (m.map C4.c3) out' := by
  refine ⟨fun c => ?_, ?_⟩
  · rw [(hp.map C4.c3).mem_iff, h.2 c]
    exact ⟨fun h => h.1, fun h => ⟨h, hl _⟩⟩
  · have h1 : (out'.map C4.at_).Nodup := ((hp.map C4.at_).nodup_iff).2 h.1
    have h2 : out'.Pairwise fun a b => a.at_ ≠ b.at_ := by
      have := h1
      unfold List.Nodup at this
      rwa [List.pairwise_map] at this
    exact (hs.and h2).imp fun ⟨a, b⟩ => by omega
def SealP (w0 w : World) (n : NB) (room : Int) (r : Int × S3) (e : Ending) (w' : World) : Prop :=
  ∃ v out n' ep' m', e = .returned (.tuple #[v, .int .i64 r.1]) ∧ K4.R 77 w' w.heap.size (fun _ => True) v out ∧ (∀ z ∈ out, OwnB w' w.heap.size z) ∧ (if r.1 = 0 then IsAll r.2.2.1 out else out = []) ∧
    n'.gp = n.gp ∧ n'.gn = n.gn ∧ Nd w0 w' n' room r.2.2.2 r.2.2.2.length ep' m' ∧ (ep', m'.map C4.c3, r.2.2.2) = r.2 ∧ Stp w w' (SN n) (SN n') ∧ ∃ b2, K4.R 77 w' b2 (fun _ => True) v out ∧ (∀ z ∈ out, OwnB w' b2 z) ∧ (∀ k, SN n' k → k < b2) ∧ w.heap.size ≤ b2
section
variable {w0 w w' : World} {n : NB} {room : Int} {bs : List Int} {ep : Int} {m : List C4}
theorem SealP.same (N : Nd w0 w n room bs bs.length ep m) (hb : Below w.heap.size w w') (r : Int) (hr : r ≠ 0) : SealP w0 w n room (r, (ep, m.map C4.c3, bs)) (.returned (.tuple #[.slice none 0 0, .int .i64 r])) w' :=
  ⟨.slice none 0 0, [], n, ep, m, rfl, Kd.R_nil _ _ _ _ _, fun _ hz => (by cases hz), by rw [if_neg hr], rfl, rfl, N.below hb, rfl, Stp.of_below _ hb, w'.heap.size, Kd.R_nil _ _ _ _ _, fun _ hz => (by cases hz), fun k hk => (N.below hb).lt hk, hb.size⟩
end
end Go.Proofs.YtiinelmednbpmaaGreat.Slot

/- The contracts once more, over what a node is by definition; a nil node; bytes that are too many. -/
namespace Go.Proofs.YtiinelmednbpmaaGreat.Slot
open Go.RowKit Go.Maps Go.Proofs.YtiinelmednbpmaaGreatW.PrintWords Go.Proofs.YtiinelmednbpmaaGreatW.PrintMore Go.Proofs.YtiinelmednbpmaaGreat.Row Go.Proofs.YtiinelmednbpmaaGreat.Cut Go.Proofs.YtiinelmednbpmaaGreat.DiskM Go.Proofs.YtiinelmednbpmaaGreat.Quor
open Go.Proofs.YtiinelmednbpmaaGreat.Crc
def NS (w0 w : World) (n : NB) (g : Nat) (gd : Nat × (Nat → Prop)) (room : Int) (s : S3) : Prop := n.gn = g ∧ n.gp = gd ∧ ∃ m, Nd w0 w n room s.2.2 s.2.2.length s.1 m ∧ m.map C4.c3 = s.2.1
section
variable {w0 w w' : World} {n : NB} {g : Nat} {gd : Nat × (Nat → Prop)} {vd : Value} {room : Int} {s : S3}
theorem NS.below (h : NS w0 w n g gd room s) (hb : Below w.heap.size w w') : NS w0 w' n g gd room s := by
  obtain ⟨h1, h2, m, N, hm⟩ := h
  exact ⟨h1, h2, m, N.below hb, hm⟩
theorem NS.all (h : NS w0 w n g gd room s) : Below w0.heap.size w0 w := by
  obtain ⟨_, _, m, N, _⟩ := h
  exact N.seg.disk.below
theorem NS.disk (h : NS w0 w n g gd room s) : Dk w0 w gd.1 n.vd room s.2.2 s.2.2.length := by
  obtain ⟨_, rfl, m, N, _⟩ := h
  exact N.seg.disk
theorem NS.rng (h : NS w0 w n g gd room s) : 0 ≤ s.1 ∧ s.1 ≤ 1048576 := by
  obtain ⟨_, _, m, N, _⟩ := h
  exact N.rng
theorem NS.rngc (h : NS w0 w n g gd room s) : ∀ c ∈ s.2.1, (0 ≤ c.1 ∧ c.1 ≤ 4095) ∧ (0 ≤ c.2.1 ∧ c.2.1 ≤ 1048576) ∧ c.2.2.length ≤ 2048 ∧ ∀ x ∈ c.2.2, 0 ≤ x ∧ x ≤ 255 := by
  obtain ⟨_, _, m, N, hm⟩ := h
  intro c hc
  rw [← hm] at hc
  obtain ⟨z, hz, rfl⟩ := List.mem_map.1 hc
  exact N.rngc z hz
theorem NS.lt (h : NS w0 w n g gd room s) {k : Nat} (hk : SN n k) : k < w.heap.size := by
  obtain ⟨_, _, m, N, _⟩ := h
  exact N.lt hk
theorem NS.low (h : NS w0 w n g gd room s) {k : Nat} (hk : SN n k) : w0.heap.size ≤ k := by
  obtain ⟨_, _, m, N, _⟩ := h
  exact N.low hk
theorem scan_nil : scanF [] = ([], 0) := by decide +kernel
def OpenNP (w0 w : World) (gd : Nat × (Nat → Prop)) (vd : Value) (room : Int) (s : S3) (e : Ending) (w' : World) : Prop :=
  ∃ n g, e = .returned (.pointer (some ⟨g, 0, none⟩)) ∧ NS w0 w' n g gd room s ∧ Stp w w' (DB gd.1 vd) (SN n)
theorem open_ns {bs : List Int} {safe : Nat} (D : Dk w0 w gd.1 vd room bs safe) (hP : ∀ k, gd.2 k → k < w.heap.size) (h : ((foldF (scanF bs).1).1, (foldF (scanF bs).1).2, bs.take (scanF bs).2) = s) :
    Calls Tryz.prog 27 #[.pointer (some ⟨gd.1, 0, none⟩)] w (OpenNP w0 w gd vd room s) := by
  refine (open_calls D gd.2 hP).mono ?_
  rintro e w1 ⟨n, ep, m, h1, rfl, N, hf, hs⟩
  subst h
  refine ⟨n, n.gn, rfl, ⟨rfl, h1, m, ?_, ?_⟩, hs⟩
  · show Nd w0 w1 n room (bs.take (scanF bs).2) (bs.take (scanF bs).2).length (foldF (scanF bs).1).1 m
    rw [← hf]; exact N
  · show m.map C4.c3 = (foldF (scanF bs).1).2
    rw [← hf]
theorem open_new (D : Dk w0 w gd.1 vd room [] 0) (hP : ∀ k, gd.2 k → k < w.heap.size) : Calls Tryz.prog 27 #[.pointer (some ⟨gd.1, 0, none⟩)] w (OpenNP w0 w gd vd room (0, [], [])) :=
  open_ns D hP (by rw [scan_nil]; rfl)
def WriteNP (w0 w : World) (n : NB) (g : Nat) (gd : Nat × (Nat → Prop)) (room : Int) (r : Int × S3) (e : Ending) (w' : World) : Prop :=
  ∃ n', e = .returned (.int .i64 r.1) ∧ NS w0 w' n' g gd room r.2 ∧ Stp w w' (SN n) (SN n')
set_option maxRecDepth 1000000 in
set_option maxHeartbeats 4000000 in
theorem write_big {bs : List Int} {ep : Int} {m : List C4} (N : Nd w0 w n room bs bs.length ep m) (epoch at_ : Int) (B : Option Addr) (d bl : Nat) (hbl : bl ≤ 9223372036854775807) (hbig : 2048 < bl) :
    Calls Tryz.prog 66 #[.pointer (some ⟨n.gn, 0, none⟩), .int .i64 epoch, .int .i64 at_, .slice B bl d] w (AnsP w0 w n room (2, (ep, m.map C4.c3, bs))) := by
  have HN := Lib.hid N
  have h4i : (2048 : Int) < (bl : Int) := by omega
  clear N
  by_cases h0 : at_ < 0
  · go_enter Tryz.func66, Tryz.ntmps66
    go_wp2_with fail
    go_ret
    exact AnsP.same HN.out (Below.refl _ _) 2
  · by_cases h1 : 4096 ≤ at_
    · go_enter Tryz.func66, Tryz.ntmps66
      go_wp2_with fail
      go_ret
      exact AnsP.same HN.out (Below.refl _ _) 2
    · by_cases h2 : epoch < 0
      · go_enter Tryz.func66, Tryz.ntmps66
        go_wp2_with fail
        go_ret
        exact AnsP.same HN.out (Below.refl _ _) 2
      · by_cases h3 : 1048576 < epoch
        · go_enter Tryz.func66, Tryz.ntmps66
          go_wp2_with fail
          go_ret
          exact AnsP.same HN.out (Below.refl _ _) 2
        · go_enter Tryz.func66, Tryz.ntmps66
          go_wp2_with fail
          go_ret
          exact AnsP.same HN.out (Below.refl _ _) 2
theorem write_ns (h : NS w0 w n g gd room s) (epoch at_ : Int) (B : Option Addr) (d : Nat) (b : List Int) (hC : (Kd.int .u8).C w B b.length b) (hd : b.length ≤ d) (hby : ∀ x ∈ b, 0 ≤ x ∧ x ≤ 255) (hbl : b.length ≤ 9223372036854775807) (hfit : (s.2.2.length : Int) + 2100 ≤ room) :
    Calls Tryz.prog 66 #[.pointer (some ⟨g, 0, none⟩), .int .i64 epoch, .int .i64 at_, .slice B b.length d] w (WriteNP w0 w n g gd room (writeF s epoch at_ b)) := by
  obtain ⟨rfl, rfl, m, N, hm⟩ := h
  have hs : s = (s.1, m.map C4.c3, s.2.2) := by rw [hm]
  by_cases hbig : 2048 < b.length
  · refine (write_big N epoch at_ B d b.length hbl hbig).mono ?_
    rintro e w1 ⟨n', ep', m', rfl, h1, h2, N', he, hst⟩
    have hF : writeF s epoch at_ b = (2, s) := by unfold writeF; rw [if_pos (.inr (.inr (.inr (.inr hbig))))]
    rw [hF, hs]
    injection he with he1 he2
    injection he2 with he2 he3
    refine ⟨n', rfl, ⟨h2, h1, m', ?_, he2⟩, hst⟩
    subst he1
    exact N'
  · refine (write_calls N epoch at_ B d b hC hd hby hbl (by omega)).mono ?_
    rintro e w1 ⟨n', ep', m', rfl, h1, h2, N', he, hst⟩
    rw [← hs] at N' he ⊢
    refine ⟨n', rfl, ⟨h2, h1, m', ?_, congrArg (fun x => x.2.1) he⟩, hst⟩
    have e1 : ep' = (writeF s epoch at_ b).2.1 := congrArg (fun x => x.1) he
    rw [← e1]; exact N'
/-- The same, where the bytes and the room are small. -/
theorem write_ns' (h : NS w0 w n g gd room s) (epoch at_ : Int) (B : Option Addr) (d : Nat) (b : List Int) (hC : (Kd.int .u8).C w B b.length b) (hd : b.length ≤ d) (hby : ∀ x ∈ b, 0 ≤ x ∧ x ≤ 255) (hbl : b.length ≤ 9223372036854775807) (hfit : (s.2.2.length : Int) + b.length + 20 ≤ room) :
    Calls Tryz.prog 66 #[.pointer (some ⟨g, 0, none⟩), .int .i64 epoch, .int .i64 at_, .slice B b.length d] w (WriteNP w0 w n g gd room (writeF s epoch at_ b)) := by
  obtain ⟨rfl, rfl, m, N, hm⟩ := h
  have hs : s = (s.1, m.map C4.c3, s.2.2) := by rw [hm]
  refine (write_calls N epoch at_ B d b hC hd hby hbl hfit).mono ?_
  rintro e w1 ⟨n', ep', m', rfl, h1, h2, N', he, hst⟩
  rw [← hs] at N' he ⊢
  refine ⟨n', rfl, ⟨h2, h1, m', ?_, congrArg (fun x => x.2.1) he⟩, hst⟩
  have e1 : ep' = (writeF s epoch at_ b).2.1 := congrArg (fun x => x.1) he
  rw [← e1]; exact N'
def SealNP (w0 w : World) (n : NB) (g : Nat) (gd : Nat × (Nat → Prop)) (room : Int) (r : Int × S3) (e : Ending) (w' : World) : Prop :=
  ∃ v out n', e = .returned (.tuple #[v, .int .i64 r.1]) ∧ K4.R 77 w' w.heap.size (fun _ => True) v out ∧ (∀ z ∈ out, OwnB w' w.heap.size z) ∧ (if r.1 = 0 then IsAll r.2.2.1 out else out = []) ∧ NS w0 w' n' g gd room r.2 ∧ Stp w w' (SN n) (SN n')
end
/- A nil node. -/
set_option maxHeartbeats 1000000 in
theorem write_nil (w : World) (epoch at_ : Int) (v : Value) : Calls Tryz.prog 66 #[.pointer none, .int .i64 epoch, .int .i64 at_, v] w fun e w' => e = .returned (.int .i64 8) ∧ w = w' := by
  go_enter Tryz.func66, Tryz.ntmps66
  go_wp2
  go_ret
  exact ⟨rfl, rfl⟩
set_option maxHeartbeats 1000000 in
theorem seal_nil (w : World) (epoch : Int) : Calls Tryz.prog 30 #[.pointer none, .int .i64 epoch] w fun e w' => e = .returned (.tuple #[.slice none 0 0, .int .i64 8]) ∧ w = w' := by
  go_enter Tryz.func30, Tryz.ntmps30
  go_wp2
  go_ret2
  exact ⟨rfl, rfl⟩
end Go.Proofs.YtiinelmednbpmaaGreat.Slot
/- Plain: what Write and Seal make of a node by definition. -/
namespace Go.Proofs.YtiinelmednbpmaaGreat.Slot
open Go.Proofs.YtiinelmednbpmaaGreat.Crc Go.Proofs.YtiinelmednbpmaaGreat.Quor
theorem toNat_cast {x : Int} (h : 0 ≤ x) : ((x.toNat : Nat) : Int) = x := Int.toNat_of_nonneg h
/-- Must a slot be written? -/
def Free (s : S3) (ep at_ : Int) : Prop := look s.2.1 at_ = none ∨ ∃ d, look s.2.1 at_ = some d ∧ d.2.1 < ep
def wrote (s : S3) (ep at_ : Int) (b : List Int) : S3 := (s.1, putC (at_, ep, b) s.2.1, s.2.2 ++ frameF (writeP ep.toNat at_.toNat b))
theorem note_write (s : S3) (ep at_ : Int) (b : List Int) (h0 : 0 ≤ ep) (h1 : ep ≤ 1048576) (h2 : 0 ≤ at_) (h3 : at_ < 4096) (h4 : b.length ≤ 2048) (h5 : s.1 ≤ ep) (hf : Free s ep at_) : noteF s (writeP ep.toNat at_.toNat b) = wrote s ep at_ b := by
  have e1 := toNat_cast h0
  have e2 := toNat_cast h2
  have hr : redoF (s.1, s.2.1) (writeP ep.toNat at_.toNat b) = (s.1, putC (at_, ep, b) s.2.1) := by
    unfold redoF
    rw [headR_write ep.toNat at_.toNat b (by omega)]
    simp only [e1]
    rw [if_neg (by decide), if_pos trivial, cellR_write at_.toNat b (by omega) h4]
    simp only [e2]
    rw [if_neg (by omega)]
    rcases hf with hf | ⟨d, hf, hd⟩
    · rw [hf]
    · rw [hf]; simp only; rw [if_pos hd]
  unfold noteF wrote
  rw [hr]
theorem note_seal (s : S3) (ep : Int) (h0 : 0 ≤ ep) (h1 : ep ≤ 1048576) (h2 : s.1 < ep) : noteF s (sealP ep.toNat) = (ep, s.2.1, s.2.2 ++ frameF (sealP ep.toNat)) := by
  have e1 := toNat_cast h0
  have hr : redoF (s.1, s.2.1) (sealP ep.toNat) = (ep, s.2.1) := by
    unfold redoF
    rw [headR_seal ep.toNat (by omega)]
    simp only [e1]
    rw [if_pos trivial, if_pos ⟨trivial, h2⟩]
  unfold noteF
  rw [hr]
def InW (ep at_ : Int) (b : List Int) : Prop := 0 ≤ at_ ∧ at_ < 4096 ∧ 0 ≤ ep ∧ ep ≤ 1048576 ∧ b.length ≤ 2048
/-- What Write does, case by case. -/
theorem writeF_cases (s : S3) (ep at_ : Int) (b : List Int) :
    (¬ InW ep at_ b ∧ writeF s ep at_ b = (2, s)) ∨ (InW ep at_ b ∧ ep < s.1 ∧ writeF s ep at_ b = (7, s)) ∨
    (InW ep at_ b ∧ s.1 ≤ ep ∧ look s.2.1 at_ = some (at_, ep, b) ∧ writeF s ep at_ b = (0, s)) ∨
    (InW ep at_ b ∧ s.1 ≤ ep ∧ (∃ d, look s.2.1 at_ = some d ∧ ep ≤ d.2.1 ∧ ¬ (d.2.1 = ep ∧ d.2.2 = b)) ∧ writeF s ep at_ b = (12, s)) ∨
    (InW ep at_ b ∧ s.1 ≤ ep ∧ Free s ep at_ ∧ writeF s ep at_ b = (0, wrote s ep at_ b)) := by
  unfold writeF
  by_cases h : at_ < 0 ∨ 4096 ≤ at_ ∨ ep < 0 ∨ 1048576 < ep ∨ 2048 < b.length
  · rw [if_pos h]
    refine .inl ⟨?_, rfl⟩
    unfold InW; omega
  · rw [if_neg h]
    have hi : InW ep at_ b := by unfold InW; omega
    have hi' := hi
    obtain ⟨h1, h2, h3, h4, h5⟩ := hi'
    by_cases h6 : ep < s.1
    · rw [if_pos h6]; exact .inr (.inl ⟨hi, h6, rfl⟩)
    · rw [if_neg h6]
      cases hl : look s.2.1 at_ with
      | none =>
        have hf : Free s ep at_ := .inl hl
        simp only
        rw [note_write s ep at_ b h3 h4 h1 h2 h5 (by omega) hf]
        exact .inr (.inr (.inr (.inr ⟨hi, by omega, hf, rfl⟩)))
      | some d =>
        simp only
        by_cases h7 : ep ≤ d.2.1
        · rw [if_pos h7]
          by_cases h8 : d.2.1 = ep ∧ d.2.2 = b
          · rw [if_pos h8]
            have hd := (look_mem hl).2
            refine .inr (.inr (.inl ⟨hi, by omega, ?_, rfl⟩))
            obtain ⟨d1, d2, d3⟩ := d
            simp only at hd h8
            obtain ⟨rfl, rfl⟩ := h8
            rw [hd]
          · rw [if_neg h8]
            exact .inr (.inr (.inr (.inl ⟨hi, by omega, ⟨d, rfl, h7, h8⟩, rfl⟩)))
        · rw [if_neg h7]
          have hf : Free s ep at_ := .inr ⟨d, hl, by omega⟩
          rw [note_write s ep at_ b h3 h4 h1 h2 h5 (by omega) hf]
          exact .inr (.inr (.inr (.inr ⟨hi, by omega, hf, rfl⟩)))
theorem sealF_cases (s : S3) (ep : Int) (hs : 0 ≤ s.1) :
    ((ep ≤ s.1 ∨ 1048576 < ep) ∧ (∃ r, r ≠ 0 ∧ sealF s ep = (r, s))) ∨ (s.1 < ep ∧ ep ≤ 1048576 ∧ sealF s ep = (0, (ep, s.2.1, s.2.2 ++ frameF (sealP ep.toNat)))) := by
  unfold sealF
  by_cases h : ep < 0 ∨ 1048576 < ep
  · rw [if_pos h]; exact .inl ⟨by omega, 2, by decide, rfl⟩
  · rw [if_neg h]
    by_cases h2 : ep ≤ s.1
    · rw [if_pos h2]; exact .inl ⟨.inl h2, 7, by decide, rfl⟩
    · rw [if_neg h2, note_seal s ep (by omega) (by omega) (by omega)]
      exact .inr ⟨by omega, by omega, rfl⟩
theorem wrote_len (s : S3) (ep at_ : Int) (b : List Int) (h : InW ep at_ b) : (wrote s ep at_ b).2.2.length ≤ s.2.2.length + b.length + 14 := by
  obtain ⟨h1, h2, h3, h4, h5⟩ := h
  have q1 := writeP_len ep.toNat at_.toNat b (by omega) h5
  have q2 := frame_len (writeP ep.toNat at_.toNat b)
  unfold wrote
  simp only [List.length_append]
  omega
theorem writeF_len (s : S3) (ep at_ : Int) (b : List Int) : (writeF s ep at_ b).2.2.2.length ≤ s.2.2.length + 2062 := by
  rcases writeF_cases s ep at_ b with ⟨_, h⟩ | ⟨_, _, h⟩ | ⟨_, _, _, h⟩ | ⟨_, _, _, h⟩ | ⟨hi, _, _, h⟩ <;> rw [h] <;> simp only
  · omega
  · omega
  · omega
  · omega
  · have := wrote_len s ep at_ b hi
    have := hi.2.2.2.2
    omega
theorem sealF_len (s : S3) (ep : Int) (hs : 0 ≤ s.1) : (sealF s ep).2.2.2.length ≤ s.2.2.length + 10 := by
  rcases sealF_cases s ep hs with ⟨_, r, _, h⟩ | ⟨_, _, h⟩ <;> rw [h] <;> simp only
  · omega
  · have q1 := sealP_len ep.toNat
    have q2 := frame_len (sealP ep.toNat)
    rw [List.length_append]
    omega
theorem writeF_epoch (s : S3) (ep at_ : Int) (b : List Int) : (writeF s ep at_ b).2.1 = s.1 := by
  rcases writeF_cases s ep at_ b with ⟨_, h⟩ | ⟨_, _, h⟩ | ⟨_, _, _, h⟩ | ⟨_, _, _, h⟩ | ⟨_, _, _, h⟩ <;> rw [h] <;> rfl
theorem look_wrote (s : S3) (ep at_ : Int) (b : List Int) (a : Int) : look (wrote s ep at_ b).2.1 a = if at_ = a then some (at_, ep, b) else look s.2.1 a := look_put _ _ _
/-- The tail's meaning at few cells. -/
theorem tail_one (c : B3) (h : 0 ≤ c.1) : IsTail [c] (c.1 + 1) := ⟨by omega, fun x hx => by rw [List.mem_singleton.1 hx]; exact Int.le_refl _, .inr ⟨c, by simp, rfl⟩⟩
theorem all_len {m : List B3} {out : List C4} (h : IsAll m out) (c : B3) (hm : m = [c]) : out.length = 1 := by
  obtain ⟨h1, h2⟩ := h
  subst hm
  match out, h1, h2 with
  | [], h1, _ => have := (h1 c).2 (by simp); simp at this
  | [x], _, _ => rfl
  | x :: y :: r, h1, h2 =>
    exfalso
    have e1 : x.c3 = c := by simpa using (h1 x.c3).1 (by simp)
    have e2 : y.c3 = c := by simpa using (h1 y.c3).1 (by simp)
    have := (List.pairwise_cons.1 h2).1 y (by simp)
    have e3 : x.at_ = y.at_ := congrArg (fun (t : B3) => t.1) (e1.trans e2.symm)
    omega
end Go.Proofs.YtiinelmednbpmaaGreat.Slot
/- 'shown' of chapter 8's statements. -/
namespace Go.Proofs.YtiinelmednbpmaaGreat.Slot
open Go.RowKit Go.Maps Go.Proofs.YtiinelmednbpmaaGreatW.PrintWords Go.Proofs.YtiinelmednbpmaaGreatW.PrintMore Go.Proofs.YtiinelmednbpmaaGreatW.PrintLast Go.Proofs.YtiinelmednbpmaaGreat.Row Go.Proofs.YtiinelmednbpmaaGreat.Cut Go.Proofs.YtiinelmednbpmaaGreat.DiskM Go.Proofs.YtiinelmednbpmaaGreat.Quor
open Go.Proofs.YtiinelmednbpmaaGreat.Crc
theorem lit_C (w : World) (k : IntKind) (e : TypeId) (xs : List Int) (h : xs.length ≤ 9223372036854775807) : (Kd.int k).C (w.alloc (.cells (nums k xs).toArray e)) (some ⟨w.heap.size, 0, none⟩) xs.length xs := by
  refine ⟨rfl, h, fun _ => ⟨_, rfl, fun j p hj => ⟨[.int k p], rfl, rfl, fun i u hu => ?_⟩⟩⟩
  obtain ⟨rfl, rfl⟩ : i = 0 ∧ u = .int k p := by
    cases i with
    | zero => exact ⟨rfl, by simpa using hu.symm⟩
    | succ i => simp at hu
  have e1 : (Kd.int k).sz = 1 := rfl
  rw [e1, Nat.mul_one, Nat.add_zero, add_plain, blk_cell (heap_alloc_new w _)]
  simp [nums, hj]
def t0 : S3 := (0, [], [])
def t1 : S3 := (0, [(3, 0, [7])], (writeF t0 0 3 [7]).2.2.2)
def t2 : S3 := (2, [(3, 0, [7])], t1.2.2 ++ frameF (sealP 2))
theorem sh1 : writeF t0 0 3 [7] = (0, t1) := by decide +kernel
theorem sh2 : writeF t1 0 3 [8] = (12, t1) := by decide +kernel
theorem sh3 : sealF t1 2 = (0, t2) := by decide +kernel
theorem sh4 : writeF t2 1 4 [9] = (7, t2) := by decide +kernel
theorem sh5 : (writeF t2 2 3 [8]).1 = 0 := by decide +kernel
theorem sh5c : (writeF t2 2 3 [8]).2.2.1 = [(3, 2, [8])] := by decide +kernel
theorem sl1 : t1.2.2.length < 100 := by decide +kernel
theorem sl2 : t2.2.2.length < 100 := by decide +kernel
theorem by1 (x : Int) (h : 0 ≤ x ∧ x ≤ 255) : ∀ y ∈ [x], 0 ≤ y ∧ y ≤ 255 := fun y hy => by rw [List.mem_singleton.1 hy]; exact h
end Go.Proofs.YtiinelmednbpmaaGreat.Slot

/- A disk that is full: Put and note whatever the room is. -/
namespace Go.Proofs.YtiinelmednbpmaaGreat.Slot
open Go.RowKit Go.Maps Go.Proofs.YtiinelmednbpmaaGreatW.PrintWords Go.Proofs.YtiinelmednbpmaaGreatW.PrintMore Go.Proofs.YtiinelmednbpmaaGreat.Row Go.Proofs.YtiinelmednbpmaaGreat.Cut Go.Proofs.YtiinelmednbpmaaGreat.DiskM Go.Proofs.YtiinelmednbpmaaGreat.Quor
open Go.Proofs.YtiinelmednbpmaaGreat.Crc (frameF frameF_len frameF_bytes uintB_len)
theorem drawn0_below {w w' : World} (h : Drawn0 w w') : Below w.heap.size w w' := h.below
set_option maxRecDepth 1000000 in
set_option maxHeartbeats 4000000 in
theorem sput_full {w0 w : World} {sg gd : Nat} {vr vd : Value} {room : Int} {bs : List Int} {safe : Nat} (h : Sg w0 w sg gd vr vd room bs safe) (A : Option Addr) (c : Nat) (l : List Int) (hC : (Kd.int .u8).C w A l.length l) (hc : l.length ≤ c) (hby : ∀ x ∈ l, 0 ≤ x ∧ x ≤ 255) (hl : l.length ≤ 4096) (hfit : room - bs.length < ((frameF l).length : Int)) :
    Calls Tryz.prog 84 #[.pointer (some ⟨sg, 0, none⟩), .slice A l.length c] w fun e w' => e = .returned (.int .i64 3) ∧ Below w.heap.size w w' := by
  obtain ⟨t, hb⟩ := h.blk
  have c0 := (blk_cell hb 0).trans rfl
  have hm := meth_append
  have HS := Lib.hid h; have HFit := Lib.hid hfit
  obtain ⟨N, hN⟩ : ∃ N, N = l.length := ⟨_, rfl⟩
  have HN := Lib.hid hN
  have hfr := PWrite.frame_ok A c l w hC hc hby hl
  rw [← hN] at hfr hl ⊢
  clear h hb hC hby hfit hN hc
  go_enter Tryz.func84, Tryz.ntmps84
  go_wp2_with fail
  refine hfr.mono ?_
  rintro e w1 ⟨v1, rfl, hR1, hb1⟩
  obtain ⟨A1, c1, rfl⟩ := Kd.R_slice hR1
  have hS1 := HS.out.below hb1
  have hfl : (frameF l).length ≤ 9223372036854775807 := by
    have := frameF_len l; rw [this, uintB_len]; have := HN.out; split <;> omega
  have hap := append_full hS1.disk A1 c1 (frameF l).length hfl HFit.out
  obtain ⟨t1, hbk1⟩ := hS1.blk
  have b0 := (blk_cell hbk1 0).trans rfl
  have HB1 := Lib.hid hb1
  clear hfr hR1 hb1 hS1 hbk1 c0 hfl
  go_wp2_with fail
  refine hap.mono ?_
  rintro e w2 ⟨rfl, hd⟩
  have HB2 := Lib.hid (below_step HB1.out hd.below)
  clear hap hd b0 hm
  go_wp2_with fail
  go_ret
  exact ⟨rfl, HB2.out⟩
/-- A payload is put, synced, and done; where the disk is full: nothing. -/
def noteR (room : Int) (s : S3) (p : List Int) : Int × S3 := if ((frameF p).length : Int) ≤ room - s.2.2.length then (0, noteF s p) else (3, s)
set_option maxRecDepth 1000000 in
set_option maxHeartbeats 4000000 in
theorem note_any {w0 w : World} {n : NB} {room : Int} {bs : List Int} {ep : Int} {m : List C4} (N : Nd w0 w n room bs bs.length ep m) (A : Option Addr) (c : Nat) (l : List Int) (hA : Kd.F (Kd.int .u8) w (fun k => ¬ SN n k) A l.length l) (hc : l.length ≤ c) (hby : ∀ x ∈ l, 0 ≤ x ∧ x ≤ 255) (hl : l.length ≤ 4096) :
    Calls Tryz.prog 56 #[.pointer (some ⟨n.gn, 0, none⟩), .slice A l.length c] w (AnsP w0 w n room (noteR room (ep, m.map C4.c3, bs) l)) := by
  by_cases hfit : ((frameF l).length : Int) ≤ room - bs.length
  · refine (note_calls N A c l hA hc hby hl hfit).mono ?_
    intro e w1 hP
    unfold noteR
    rw [if_pos hfit]
    exact AnsP.note (Below.refl _ _) hP
  · obtain ⟨c0, _, _, _⟩ := N.cells
    have hp := sput_full N.seg A c l (Kd.F_now hA) hc hby hl (by omega)
    have hF : noteR room (ep, m.map C4.c3, bs) l = (3, (ep, m.map C4.c3, bs)) := by unfold noteR; rw [if_neg hfit]
    have HN := Lib.hid N; have HF := Lib.hid hF
    clear N hA hby hfit hF
    go_enter Tryz.func56, Tryz.ntmps56
    go_wp2_with fail
    refine hp.mono ?_
    rintro e w1 ⟨rfl, hB⟩
    have HB := Lib.hid hB
    clear hp hB c0
    go_wp2_with fail
    go_ret
    rw [HF.out]
    exact AnsP.same HN.out HB.out 3
end Go.Proofs.YtiinelmednbpmaaGreat.Slot
/- The walk of Write once more, whatever the room is. -/
namespace Go.Proofs.YtiinelmednbpmaaGreat.Slot
open Go.RowKit Go.Maps Go.Proofs.YtiinelmednbpmaaGreatW.PrintWords Go.Proofs.YtiinelmednbpmaaGreatW.PrintMore Go.Proofs.YtiinelmednbpmaaGreat.Row Go.Proofs.YtiinelmednbpmaaGreat.Cut Go.Proofs.YtiinelmednbpmaaGreat.DiskM Go.Proofs.YtiinelmednbpmaaGreat.Quor
open Go.Proofs.YtiinelmednbpmaaGreat.PWrite (puint_calls pbytes_calls equal_calls uintW uintW_len uintW_len2)
open Go.Proofs.YtiinelmednbpmaaGreat.Crc (frameF)
def writeR (room : Int) (s : S3) (ep at_ : Int) (b : List Int) : Int × S3 :=
  if at_ < 0 ∨ 4096 ≤ at_ ∨ ep < 0 ∨ 1048576 < ep ∨ 2048 < b.length then (2, s)
  else if ep < s.1 then (7, s)
  else match look s.2.1 at_ with
    | none => noteR room s (writeP ep.toNat at_.toNat b)
    | some d => if ep ≤ d.2.1 then (if d.2.1 = ep ∧ d.2.2 = b then (0, s) else (12, s)) else noteR room s (writeP ep.toNat at_.toNat b)
theorem AnsP.after {w0 w w1 w' : World} {n : NB} {room : Int} {r : Int × S3} {e : Ending} (hb : Below w.heap.size w w1) (h : AnsP w0 w1 n room r e w') : AnsP w0 w n room r e w' := by
  obtain ⟨n', ep', m', h1, h2, h3, h4, h5, h6⟩ := h
  exact ⟨n', ep', m', h1, h2, h3, h4, h5, (Stp.of_below _ hb).trans h6⟩
set_option maxRecDepth 1000000 in
set_option maxHeartbeats 8000000 in
theorem write_any {w0 w : World} {n : NB} {room : Int} {bs : List Int} {ep : Int} {m : List C4} (N : Nd w0 w n room bs bs.length ep m) (epoch at_ : Int) (B : Option Addr) (d : Nat) (b : List Int) (hC : (Kd.int .u8).C w B b.length b) (hd : b.length ≤ d) (hby : ∀ x ∈ b, 0 ≤ x ∧ x ≤ 255) (hbl : b.length ≤ 9223372036854775807) :
    Calls Tryz.prog 66 #[.pointer (some ⟨n.gn, 0, none⟩), .int .i64 epoch, .int .i64 at_, .slice B b.length d] w (AnsP w0 w n room (writeR room (ep, m.map C4.c3, bs) epoch at_ b)) := by
  obtain ⟨_, c1, c2, _⟩ := N.cells
  have HN := Lib.hid N; have HC := Lib.hid hC; have HBy := Lib.hid hby; have HD := Lib.hid hd
  have hF : writeR room (ep, m.map C4.c3, bs) epoch at_ b = writeR room (ep, m.map C4.c3, bs) epoch at_ b := rfl
  conv at hF => rhs; unfold writeR
  simp only at hF
  obtain ⟨bl, hbl2⟩ : ∃ bl, bl = b.length := ⟨_, rfl⟩
  rw [← hbl2] at hF hbl ⊢
  have HBl := Lib.hid hbl2
  clear N hC hby hd hbl2
  by_cases h0 : at_ < 0
  · rw [if_pos (.inl h0)] at hF
    have HF := Lib.hid hF
    clear hF
    go_enter Tryz.func66, Tryz.ntmps66
    go_wp2_with fail
    go_ret
    rw [HF.out]
    exact AnsP.same HN.out (Below.refl _ _) 2
  · skip
    by_cases h1 : 4096 ≤ at_
    · rw [if_pos (.inr (.inl h1))] at hF
      have HF := Lib.hid hF
      clear hF
      go_enter Tryz.func66, Tryz.ntmps66
      go_wp2_with fail
      go_ret
      rw [HF.out]
      exact AnsP.same HN.out (Below.refl _ _) 2
    · skip
      by_cases h2 : epoch < 0
      · rw [if_pos (.inr (.inr (.inl h2)))] at hF
        have HF := Lib.hid hF
        clear hF
        go_enter Tryz.func66, Tryz.ntmps66
        go_wp2_with fail
        go_ret
        rw [HF.out]
        exact AnsP.same HN.out (Below.refl _ _) 2
      · skip
        by_cases h3 : 1048576 < epoch
        · rw [if_pos (.inr (.inr (.inr (.inl h3))))] at hF
          have HF := Lib.hid hF
          clear hF
          go_enter Tryz.func66, Tryz.ntmps66
          go_wp2_with fail
          go_ret
          rw [HF.out]
          exact AnsP.same HN.out (Below.refl _ _) 2
        · skip
          by_cases h4 : 2048 < bl
          · rw [if_pos (.inr (.inr (.inr (.inr h4))))] at hF
            have h4i : (2048 : Int) < (bl : Int) := by omega
            have HF := Lib.hid hF
            clear hF
            go_enter Tryz.func66, Tryz.ntmps66
            go_wp2_with fail
            go_ret
            rw [HF.out]
            exact AnsP.same HN.out (Below.refl _ _) 2
          · skip
            have h4i : ¬ (2048 : Int) < (bl : Int) := by omega
            rw [if_neg (fun e => e.elim h0 (fun e => e.elim h1 (fun e => e.elim h2 (fun e => e.elim h3 h4))))] at hF
            by_cases h5 : epoch < ep
            · rw [if_pos h5] at hF
              have HF := Lib.hid hF
              clear hF
              go_enter Tryz.func66, Tryz.ntmps66
              go_wp2_with fail
              go_ret
              rw [HF.out]
              exact AnsP.same HN.out (Below.refl _ _) 7
            · rw [if_neg h5] at hF
              have hlk := HN.out.lookup (a := at_) (w64_of (by omega) (by omega))
              have HLm := Lib.hid (look_map m at_)
              cases hlo : look4 m at_ with
              | none =>
                rw [hlo] at hlk
                simp only [val4, Option.elim, zero4, Option.isSome] at hlk
                have hlm : look (m.map C4.c3) at_ = none := by rw [HLm.out, hlo]; rfl
                rw [hlm] at hF
                simp only at hF
                have HF := Lib.hid hF
                have HB0 := Lib.hid ((Below.refl w.heap.size w).alloc (Nat.le_refl _) (.cells #[.int .i64 0, .int .i64 0, .slice none 0 0] 77))
                clear hF hlm hlo
                go_enter Tryz.func66, Tryz.ntmps66
                go_wp2_with fail
                refine (puint_calls none 0 [] 1 _ (Kd.C_nil _ _) (Nat.zero_le _) (by omega) (by omega) (by simp)).mono ?_
                rintro e w1 ⟨v1, rfl, R1, b1⟩
                obtain ⟨l1, hl1⟩ : ∃ l1, l1 = [] ++ uintW (1 : Int).toNat := ⟨_, rfl⟩
                rw [← hl1] at R1
                obtain ⟨A1, k1, rfl⟩ := Kd.R_slice R1
                obtain ⟨_, hc1, C1⟩ := Kd.R_reads' R1
                have HB1 := Lib.hid (below_step HB0.out b1)
                have hq1 : l1.length ≤ 1 := by rw [hl1]; exact Nat.le_refl _
                have hu2 := puint_calls A1 k1 l1 epoch w1 C1 hc1 (by omega) (by omega) (by omega)
                obtain ⟨n1, hn1⟩ : ∃ n1, n1 = l1.length := ⟨_, rfl⟩
                rw [← hn1] at hu2 ⊢
                have HL1 := Lib.hid hl1; have HQ1 := Lib.hid hq1
                clear hl1 hn1 R1 C1 hc1 b1 hq1
                go_wp2_with fail
                refine hu2.mono ?_
                rintro e w2 ⟨v2, rfl, R2, b2⟩
                obtain ⟨l2, hl2⟩ : ∃ l2, l2 = l1 ++ uintW epoch.toNat := ⟨_, rfl⟩
                rw [← hl2] at R2
                obtain ⟨A2, k2, rfl⟩ := Kd.R_slice R2
                obtain ⟨_, hc2, C2⟩ := Kd.R_reads' R2
                have HB2 := Lib.hid (below_step HB1.out b2)
                have hq2 : l2.length ≤ 4 := by have := HQ1.out; have := uintW_len epoch.toNat; rw [hl2, List.length_append]; omega
                have hu3 := puint_calls A2 k2 l2 at_ w2 C2 hc2 (by omega) (by omega) (by omega)
                obtain ⟨n2, hn2⟩ : ∃ n2, n2 = l2.length := ⟨_, rfl⟩
                rw [← hn2] at hu3 ⊢
                have HL2 := Lib.hid hl2; have HQ2 := Lib.hid hq2
                clear hu2 hl2 hn2 R2 C2 hc2 b2 hq2
                go_wp2_with fail
                refine hu3.mono ?_
                rintro e w3 ⟨v3, rfl, R3, b3⟩
                obtain ⟨l3, hl3⟩ : ∃ l3, l3 = l2 ++ uintW at_.toNat := ⟨_, rfl⟩
                rw [← hl3] at R3
                obtain ⟨A3, k3, rfl⟩ := Kd.R_slice R3
                obtain ⟨_, hc3, C3⟩ := Kd.R_reads' R3
                have HB3 := Lib.hid (below_step HB2.out b3)
                have hq3 : l3.length ≤ 7 := by have := HQ2.out; have := uintW_len at_.toNat; rw [hl3, List.length_append]; omega
                have hbs : b.length ≤ 2048 := by have := HBl.out; omega
                have hu4 := pbytes_calls A3 k3 l3 B d b w3 C3 hc3 (Kd.C_below HC.out HB3.out) HD.out (by omega) (by omega)
                obtain ⟨n3, hn3⟩ : ∃ n3, n3 = l3.length := ⟨_, rfl⟩
                rw [← hn3, ← HBl.out] at hu4
                rw [← hn3]
                have HL3 := Lib.hid hl3; have HBs := Lib.hid hbs
                clear hu3 hl3 hn3 R3 C3 hc3 b3 hq3 hbs
                go_wp2_with fail
                refine hu4.mono ?_
                rintro e w4 ⟨v4, rfl, R4, b4⟩
                obtain ⟨l4, hl4⟩ : ∃ l4, l4 = l3 ++ (uintW bl ++ b) := ⟨_, rfl⟩
                rw [← hl4] at R4
                obtain ⟨A4, k4, rfl⟩ := Kd.R_slice R4
                obtain ⟨_, hc4, C4'⟩ := Kd.R_reads' R4
                have HB4 := Lib.hid (below_step HB3.out b4)
                have hpay : l4 = writeP epoch.toNat at_.toNat b := by rw [hl4, HL3.out, HL2.out, HL1.out, HBl.out]; unfold writeP; rw [List.nil_append]; rfl
                have hpl := writeP_len epoch.toNat at_.toNat b (by omega) HBs.out
                have hfl := frame_len (writeP epoch.toNat at_.toNat b)
                have hno := note_any (HN.out.below HB4.out) A4 k4 l4 (HN.out.fresh HB3.out.size R4) hc4 (by rw [hpay]; exact writeP_bytes _ _ _ (by omega) (by omega) HBs.out HBy.out) (by rw [hpay]; have := HBs.out; omega)
                rw [hpay] at hno
                rw [← hpay] at hno
                obtain ⟨n4, hn4⟩ : ∃ n4, n4 = l4.length := ⟨_, rfl⟩
                rw [← hn4] at hno ⊢
                have HPay := Lib.hid hpay
                clear hu4 hl4 hn4 R4 C4' hc4 b4 hpay hpl hfl
                go_wp2_with fail
                refine hno.mono ?_
                rintro e w5 hP
                have hA := AnsP.after HB4.out hP
                rw [HPay.out] at hA
                obtain ⟨n', ep', m', rfl, hrest⟩ := hP
                have HA := Lib.hid hA
                clear hno hrest hA
                go_wp2_with fail
                go_ret
                rw [HF.out]
                exact HA.out
              | some z =>
                have hzm := (look4_mem hlo).1
                obtain ⟨hzc, hzC⟩ := HN.out.bytes hzm
                have hzl := (HN.out.rngc z hzm).2.2.1
                obtain ⟨za, ze, zb, zA, zc⟩ := z
                simp only at hzc hzC hzl
                rw [hlo] at hlk
                simp only [val4, Option.elim, agg4, Option.isSome] at hlk
                have hlm : look (m.map C4.c3) at_ = some (za, ze, zb) := by rw [HLm.out, hlo]; rfl
                rw [hlm] at hF
                simp only at hF
                obtain ⟨zl, hzl2⟩ : ∃ zl, zl = zb.length := ⟨_, rfl⟩
                rw [← hzl2] at hlk
                have HZl := Lib.hid hzl2
                have hgw := (Below.refl w.heap.size w).alloc (Nat.le_refl _) (.cells #[.int .i64 za, .int .i64 ze, .slice zA zl zc] 77)
                have HB0 := Lib.hid hgw
                by_cases h6 : epoch ≤ ze
                · rw [if_pos h6] at hF
                  by_cases h7 : ze = epoch
                  · have heq := equal_calls zA zc zb B d b (w.alloc (.cells #[.int .i64 za, .int .i64 ze, .slice zA zl zc] 77)) (Kd.C_below hzC hgw) hzc (Kd.C_below HC.out hgw) HD.out (by omega)
                    rw [← hzl2, ← HBl.out] at heq
                    have t7 : (ze == epoch) = true := beq_iff_eq.2 h7
                    by_cases h8 : zb = b
                    · rw [if_pos ⟨h7, h8⟩] at hF
                      rw [decide_eq_true h8] at heq
                      have HF := Lib.hid hF
                      clear hF hlm hlo hzm hzC hzl2 h7 h8 hgw hzc hzl
                      go_enter Tryz.func66, Tryz.ntmps66
                      go_wp2_with fail
                      refine heq.mono ?_
                      rintro e w2 ⟨rfl, hd2⟩
                      have HD2 := Lib.hid (below_step HB0.out hd2.below)
                      clear heq hd2
                      go_wp2_with fail
                      go_ret
                      rw [HF.out]
                      exact AnsP.same HN.out HD2.out 0
                    · rw [if_neg (fun h => h8 h.2)] at hF
                      rw [decide_eq_false h8] at heq
                      have HF := Lib.hid hF
                      clear hF hlm hlo hzm hzC hzl2 h7 h8 hgw hzc hzl
                      go_enter Tryz.func66, Tryz.ntmps66
                      go_wp2_with fail
                      refine heq.mono ?_
                      rintro e w2 ⟨rfl, hd2⟩
                      have HD2 := Lib.hid (below_step HB0.out hd2.below)
                      clear heq hd2
                      go_wp2_with fail
                      go_ret
                      rw [HF.out]
                      exact AnsP.same HN.out HD2.out 12
                  · rw [if_neg (fun h => h7 h.1)] at hF
                    have t7 : (ze == epoch) = false := beq_eq_false_iff_ne.2 h7
                    have HF := Lib.hid hF
                    clear hF hlm hlo hzm hzC hzl2 h7 hgw hzc hzl
                    go_enter Tryz.func66, Tryz.ntmps66
                    go_wp2_with fail
                    go_ret
                    rw [HF.out]
                    exact AnsP.same HN.out HB0.out 12
                · rw [if_neg h6] at hF
                  have HF := Lib.hid hF
                  clear hF hlm hlo hzm hzC hzl2 hgw hzc hzl
                  go_enter Tryz.func66, Tryz.ntmps66
                  go_wp2_with fail
                  refine (puint_calls none 0 [] 1 _ (Kd.C_nil _ _) (Nat.zero_le _) (by omega) (by omega) (by simp)).mono ?_
                  rintro e w1 ⟨v1, rfl, R1, b1⟩
                  obtain ⟨l1, hl1⟩ : ∃ l1, l1 = [] ++ uintW (1 : Int).toNat := ⟨_, rfl⟩
                  rw [← hl1] at R1
                  obtain ⟨A1, k1, rfl⟩ := Kd.R_slice R1
                  obtain ⟨_, hc1, C1⟩ := Kd.R_reads' R1
                  have HB1 := Lib.hid (below_step HB0.out b1)
                  have hq1 : l1.length ≤ 1 := by rw [hl1]; exact Nat.le_refl _
                  have hu2 := puint_calls A1 k1 l1 epoch w1 C1 hc1 (by omega) (by omega) (by omega)
                  obtain ⟨n1, hn1⟩ : ∃ n1, n1 = l1.length := ⟨_, rfl⟩
                  rw [← hn1] at hu2 ⊢
                  have HL1 := Lib.hid hl1; have HQ1 := Lib.hid hq1
                  clear hl1 hn1 R1 C1 hc1 b1 hq1
                  go_wp2_with fail
                  refine hu2.mono ?_
                  rintro e w2 ⟨v2, rfl, R2, b2⟩
                  obtain ⟨l2, hl2⟩ : ∃ l2, l2 = l1 ++ uintW epoch.toNat := ⟨_, rfl⟩
                  rw [← hl2] at R2
                  obtain ⟨A2, k2, rfl⟩ := Kd.R_slice R2
                  obtain ⟨_, hc2, C2⟩ := Kd.R_reads' R2
                  have HB2 := Lib.hid (below_step HB1.out b2)
                  have hq2 : l2.length ≤ 4 := by have := HQ1.out; have := uintW_len epoch.toNat; rw [hl2, List.length_append]; omega
                  have hu3 := puint_calls A2 k2 l2 at_ w2 C2 hc2 (by omega) (by omega) (by omega)
                  obtain ⟨n2, hn2⟩ : ∃ n2, n2 = l2.length := ⟨_, rfl⟩
                  rw [← hn2] at hu3 ⊢
                  have HL2 := Lib.hid hl2; have HQ2 := Lib.hid hq2
                  clear hu2 hl2 hn2 R2 C2 hc2 b2 hq2
                  go_wp2_with fail
                  refine hu3.mono ?_
                  rintro e w3 ⟨v3, rfl, R3, b3⟩
                  obtain ⟨l3, hl3⟩ : ∃ l3, l3 = l2 ++ uintW at_.toNat := ⟨_, rfl⟩
                  rw [← hl3] at R3
                  obtain ⟨A3, k3, rfl⟩ := Kd.R_slice R3
                  obtain ⟨_, hc3, C3⟩ := Kd.R_reads' R3
                  have HB3 := Lib.hid (below_step HB2.out b3)
                  have hq3 : l3.length ≤ 7 := by have := HQ2.out; have := uintW_len at_.toNat; rw [hl3, List.length_append]; omega
                  have hbs : b.length ≤ 2048 := by have := HBl.out; omega
                  have hu4 := pbytes_calls A3 k3 l3 B d b w3 C3 hc3 (Kd.C_below HC.out HB3.out) HD.out (by omega) (by omega)
                  obtain ⟨n3, hn3⟩ : ∃ n3, n3 = l3.length := ⟨_, rfl⟩
                  rw [← hn3, ← HBl.out] at hu4
                  rw [← hn3]
                  have HL3 := Lib.hid hl3; have HBs := Lib.hid hbs
                  clear hu3 hl3 hn3 R3 C3 hc3 b3 hq3 hbs
                  go_wp2_with fail
                  refine hu4.mono ?_
                  rintro e w4 ⟨v4, rfl, R4, b4⟩
                  obtain ⟨l4, hl4⟩ : ∃ l4, l4 = l3 ++ (uintW bl ++ b) := ⟨_, rfl⟩
                  rw [← hl4] at R4
                  obtain ⟨A4, k4, rfl⟩ := Kd.R_slice R4
                  obtain ⟨_, hc4, C4'⟩ := Kd.R_reads' R4
                  have HB4 := Lib.hid (below_step HB3.out b4)
                  have hpay : l4 = writeP epoch.toNat at_.toNat b := by rw [hl4, HL3.out, HL2.out, HL1.out, HBl.out]; unfold writeP; rw [List.nil_append]; rfl
                  have hpl := writeP_len epoch.toNat at_.toNat b (by omega) HBs.out
                  have hfl := frame_len (writeP epoch.toNat at_.toNat b)
                  have hno := note_any (HN.out.below HB4.out) A4 k4 l4 (HN.out.fresh HB3.out.size R4) hc4 (by rw [hpay]; exact writeP_bytes _ _ _ (by omega) (by omega) HBs.out HBy.out) (by rw [hpay]; have := HBs.out; omega)
                  rw [hpay] at hno
                  rw [← hpay] at hno
                  obtain ⟨n4, hn4⟩ : ∃ n4, n4 = l4.length := ⟨_, rfl⟩
                  rw [← hn4] at hno ⊢
                  have HPay := Lib.hid hpay
                  clear hu4 hl4 hn4 R4 C4' hc4 b4 hpay hpl hfl
                  go_wp2_with fail
                  refine hno.mono ?_
                  rintro e w5 hP
                  have hA := AnsP.after HB4.out hP
                  rw [HPay.out] at hA
                  obtain ⟨n', ep', m', rfl, hrest⟩ := hP
                  have HA := Lib.hid hA
                  clear hno hrest hA
                  go_wp2_with fail
                  go_ret
                  rw [HF.out]
                  exact HA.out
end Go.Proofs.YtiinelmednbpmaaGreat.Slot
/- The walk of Seal once more, whatever the room is. -/
namespace Go.Proofs.YtiinelmednbpmaaGreat.Slot
open Go.RowKit Go.Maps Go.Proofs.YtiinelmednbpmaaGreatW.PrintWords Go.Proofs.YtiinelmednbpmaaGreatW.PrintMore Go.Proofs.YtiinelmednbpmaaGreat.Row Go.Proofs.YtiinelmednbpmaaGreat.Cut Go.Proofs.YtiinelmednbpmaaGreat.DiskM Go.Proofs.YtiinelmednbpmaaGreat.Quor
open Go.Proofs.YtiinelmednbpmaaGreat.PWrite (puint_calls uintW uintW_len)
open Go.Proofs.YtiinelmednbpmaaGreat.Crc (frameF)
open Go.Proofs.YtiinelmednbpmaaGreat.Crc (frameF)
set_option maxRecDepth 1000000 in
set_option maxHeartbeats 8000000 in
theorem seal_fit {w0 w : World} {n : NB} {room : Int} {bs : List Int} {ep : Int} {m : List C4} (N : Nd w0 w n room bs bs.length ep m) (epoch : Int) (hfit : 0 ≤ epoch → epoch ≤ 1048576 → ep < epoch → ((frameF (sealP epoch.toNat)).length : Int) ≤ room - bs.length) :
    Calls Tryz.prog 30 #[.pointer (some ⟨n.gn, 0, none⟩), .int .i64 epoch] w (SealP w0 w n room (sealF (ep, m.map C4.c3, bs) epoch)) := by
  obtain ⟨_, c1, _, _⟩ := N.cells
  have HN := Lib.hid N; have HFit := Lib.hid hfit
  have hF : sealF (ep, m.map C4.c3, bs) epoch = sealF (ep, m.map C4.c3, bs) epoch := rfl
  conv at hF => rhs; unfold sealF
  simp only at hF
  clear N hfit
  by_cases h0 : epoch < 0
  · rw [if_pos (.inl h0)] at hF
    have HF := Lib.hid hF
    clear hF
    go_enter Tryz.func30, Tryz.ntmps30
    go_wp2_with fail
    go_ret2
    rw [HF.out]
    exact SealP.same HN.out (Below.refl _ _) 2 (by decide)
  · by_cases h1 : 1048576 < epoch
    · rw [if_pos (.inr h1)] at hF
      have HF := Lib.hid hF
      clear hF
      go_enter Tryz.func30, Tryz.ntmps30
      go_wp2_with fail
      go_ret2
      rw [HF.out]
      exact SealP.same HN.out (Below.refl _ _) 2 (by decide)
    · rw [if_neg (fun e => e.elim h0 h1)] at hF
      by_cases h2 : epoch ≤ ep
      · rw [if_pos h2] at hF
        have HF := Lib.hid hF
        clear hF
        go_enter Tryz.func30, Tryz.ntmps30
        go_wp2_with fail
        go_ret2
        rw [HF.out]
        exact SealP.same HN.out (Below.refl _ _) 7 (by decide)
      · rw [if_neg h2] at hF
        have HF := Lib.hid hF
        clear hF
        go_enter Tryz.func30, Tryz.ntmps30
        go_wp2_with fail
        refine (puint_calls none 0 [] 2 _ (Kd.C_nil _ _) (Nat.zero_le _) (by omega) (by omega) (by simp)).mono ?_
        rintro e w1 ⟨v1, rfl, R1, b1⟩
        obtain ⟨l1, hl1⟩ : ∃ l1, l1 = [] ++ uintW (2 : Int).toNat := ⟨_, rfl⟩
        rw [← hl1] at R1
        obtain ⟨A1, k1, rfl⟩ := Kd.R_slice R1
        obtain ⟨_, hc1, C1⟩ := Kd.R_reads' R1
        have HB1 := Lib.hid b1
        have hq1 : l1.length ≤ 1 := by rw [hl1]; exact Nat.le_refl _
        have hu2 := puint_calls A1 k1 l1 epoch w1 C1 hc1 (by omega) (by omega) (by omega)
        obtain ⟨n1, hn1⟩ : ∃ n1, n1 = l1.length := ⟨_, rfl⟩
        rw [← hn1] at hu2 ⊢
        have HL1 := Lib.hid hl1
        clear hl1 hn1 R1 C1 hc1 b1 hq1
        go_wp2_with fail
        refine hu2.mono ?_
        rintro e w2 ⟨v2, rfl, R2, b2⟩
        obtain ⟨l2, hl2⟩ : ∃ l2, l2 = l1 ++ uintW epoch.toNat := ⟨_, rfl⟩
        rw [← hl2] at R2
        obtain ⟨A2, k2, rfl⟩ := Kd.R_slice R2
        obtain ⟨_, hc2, C2⟩ := Kd.R_reads' R2
        have HB2 := Lib.hid (below_step HB1.out b2)
        have hpay : l2 = sealP epoch.toNat := by rw [hl2, HL1.out]; unfold sealP; rw [List.nil_append]; rfl
        have hpl := sealP_len epoch.toNat
        have hfl := frame_len (sealP epoch.toNat)
        have hno := note_calls (HN.out.below HB2.out) A2 k2 l2 (HN.out.fresh HB1.out.size R2) hc2 (by rw [hpay]; exact sealP_bytes _ (by omega)) (by rw [hpay]; omega) (by rw [hpay]; exact HFit.out (by omega) (by omega) (by omega))
        obtain ⟨n2, hn2⟩ : ∃ n2, n2 = l2.length := ⟨_, rfl⟩
        rw [← hn2] at hno ⊢
        have HPay := Lib.hid hpay
        clear hu2 hl2 hn2 R2 C2 hc2 b2 hpay hpl hfl c1
        go_wp2_with fail
        refine hno.mono ?_
        rintro e w5 hP
        rw [HPay.out] at hP
        obtain ⟨n', ep', m', rfl, hgd, hgn, N5, hs5, hst5⟩ := hP
        have HX5 := Lib.hid (And.intro hgd (And.intro hs5 ((Stp.of_below _ HB2.out).trans hst5)))
        obtain ⟨_, _, d2, _⟩ := N5.cells
        rw [hgn] at d2
        obtain ⟨D, hown, hA⟩ := N5.map
        have hrg : ∀ c ∈ m', 0 ≤ c.at_ ∧ c.at_ ≤ 4095 := fun c hc => (N5.rngc c hc).1
        have HA := Lib.hid hA; have HR := Lib.hid hrg; have HN5 := Lib.hid N5; have HGn := Lib.hid hgn
        have HO := Lib.hid hown
        clear hno hgd hs5 hst5 hA hrg N5 hgn
        go_wp2_with (first
          | (at_range; refine wpList_range_own _ rfl _ 106 rfl 3 77 keyedI Tryz.underlying106 RC4 n'.mb m'.length D rfl hown ?_; intro w6 hrg6 hg6 hs6)
          | go_in)
        go_frame
        have hB6 := Lib.hid (show Below w5.heap.size w5 w6 from (Below.refl _ _).grown hg6 (Nat.le_refl _) (fun j hj => by cases hj))
        obtain ⟨r, hr⟩ : ∃ r, w5.heap.size = r := ⟨_, rfl⟩
        rw [hr] at hrg6 hB6 ⊢
        have HRr := Lib.hid hr
        go_loopw [7] (fun v wx => ∃ (left : Lit → Bool) (cnt : Nat) (out : List C4), wx.ranges Tryz.prog 3 RC4 n'.mb r m'.length D left cnt ∧ cnt + out.length ≤ m'.length ∧ K4.R 77 wx r (fun _ => True) v out ∧ (∀ z ∈ out, OwnB wx r z) ∧ CollS m' left out ∧ Below r w5 wx) (fun _ wx => wx.rangeLeft n'.mb r)
        case atStart => exact ⟨_, _, [], hrg6, by have := hown.size_le; simpa using this, Kd.R_nil _ _ _ _ _, by simp, CollS.start HA.out HR.out, hB6.out⟩
        case round =>
          clear hg6 hs6 hrg6 hown hB6 d2
          obtain ⟨left, cnt, out, hrel⟩ := hrel
          have HRel := Lib.hid hrel
          have hrg := hrel.1
          clear hrel
          go_wp2_with (first
            | (at_next; refine wpList_next_ranges _ rfl _ rfl 3 keyedI RC4 (fun x : II => .int .i64 x.a) (fun x : VV => .agg #[.int .i64 x.a, .int .i64 x.e, .slice x.A x.n x.c]) (fun _ _ h => by obtain ⟨x, hx, _⟩ := keyOf_int_inv Tryz.underlying3 h; exact ⟨⟨x⟩, hx⟩) (fun _ _ h => RC4_shape h) n'.mb r _ _ _ _ rfl hrg ?_ ?_)
            | go_in)
          · intro hc0 hl0
            obtain ⟨_, hcn, hrow, hownb, hcoll, hb⟩ := HRel.out
            have hmf := HN5.out.few
            have hout : ∀ z ∈ out, 0 ≤ z.at_ ∧ z.at_ ≤ 4095 := fun z hz => by
              have h1 := ((hcoll.2 z.c3).1 (List.mem_map_of_mem hz)).1
              obtain ⟨y, hy, hyz⟩ := List.mem_map.1 h1
              have h2 := HR.out y hy
              have h3 : y.at_ = z.at_ := congrArg Prod.fst hyz
              omega
            have hso := sort4_calls u7 out hout _ r (K4_inner' hrow) (by omega)
            have HX := Lib.hid (And.intro hcoll (And.intro hl0 (And.intro hrow (And.intro hownb hb))))
            clear hrg hcn hrow hownb hcoll hb HRel hl0 hc0 hr hmf hout
            go_wp2_with fail
            refine hso.mono ?_
            rintro e w7 ⟨rfl, out', hp, hs, hown', hg'⟩
            have hall := HX.out.1.done HX.out.2.1 hp (hs.imp (fun h => by omega))
            have hb7 : Below r w5 w7 := HX.out.2.2.2.2.grown hg' (by rw [← HRr.out]; exact HX.out.2.2.2.2.size) (fun j hj => Kd.R_base HX.out.2.2.1 j hj)
            have hlow : w.heap.size ≤ r := by rw [← HRr.out]; exact HX5.out.2.2.size
            have hob : ∀ z ∈ out', OwnB w7 w.heap.size z := fun z hz => OwnB.low (OwnB.kept (HX.out.2.2.2.1 z (hp.mem_iff.1 hz)) HX.out.2.2.1 hg') hlow
            have hkr : K4.R 77 w7 w.heap.size (fun _ => True) u7 out' := Kd.R_lower (K4_own hown') hlow
            have hob0 : ∀ z ∈ out', OwnB w7 r z := fun z hz => OwnB.kept (HX.out.2.2.2.1 z (hp.mem_iff.1 hz)) HX.out.2.2.1 hg'
            have HFi0 := Lib.hid (And.intro (K4_own hown') hob0)
            clear hob0
            have HFi := Lib.hid (And.intro hkr (And.intro hob (And.intro hall hb7)))
            clear hso hp hs hown' hg' hob hkr hall hb7 hlow
            go_wp2
            go_ret2
            obtain ⟨hkr, hob, hall, hb7⟩ := HFi.out
            rw [HF.out]
            have hb7' : Below w5.heap.size w5 w7 := by rw [HRr.out]; exact hb7
            have hm5 : m'.map C4.c3 = (noteF (ep, m.map C4.c3, bs) (sealP epoch.toNat)).2.1 := congrArg (fun x => x.2.1) HX5.out.2.1
            exact ⟨u7, out', n', ep', m', rfl, hkr, hob, by rw [if_pos rfl]; show IsAll (noteF (ep, m.map C4.c3, bs) (sealP epoch.toNat)).2.1 out'; rw [← hm5]; exact hall, HX5.out.1, HGn.out, HN5.out.below hb7', HX5.out.2.1, HX5.out.2.2.trans (Stp.of_below _ hb7'), r, HFi0.out.1, HFi0.out.2, fun k hk => by rw [← HRr.out]; exact HN5.out.lt hk, by rw [← HRr.out]; exact HX5.out.2.2.size⟩
          · intro ⟨a⟩ ⟨va, ve, vA, vn, vc⟩ kl y yp w7 cnt7 hkey hlk hv hat hrg7 hlt7 hg7 hs7 hen
            try simp only at hkey hv hen
            obtain ⟨a', ea, rfl, hwa⟩ := keyOf_int_inv Tryz.underlying3 hkey
            obtain rfl : a = a' := by injection ea
            have hyv := congrArg Prod.fst (RC4_inv hv)
            simp only at hyv
            obtain ⟨z, hz, hza, hzv⟩ := HA.out.entry hwa (v := .agg #[.int .i64 va, .int .i64 ve, .slice vA vn vc]) (fun zd => by rw [hat zd]; exact hyv)
            obtain ⟨_, hcn, hrow, hownb, hcoll, hb⟩ := HRel.out
            obtain ⟨hzc, hzC⟩ := HN5.out.bytes hz
            have hzl := (HN5.out.rngc z hz).2.2.1
            subst hza
            obtain ⟨za, ze, zb, zA, zc⟩ := z
            simp only [agg4] at hzv
            obtain ⟨rfl, rfl, rfl, rfl, rfl⟩ : va = za ∧ ve = ze ∧ vA = zA ∧ vn = zb.length ∧ vc = zc := by
              injection hzv with h1
              injection h1 with h1
              injection h1 with a1 h1
              injection h1 with a2 h1
              injection h1 with a3 _
              injection a1 with _ a1
              injection a2 with _ a2
              injection a3 with a3 a4 a5
              exact ⟨a1, a2, a3, a4, a5⟩
            obtain ⟨o, ho, hon⟩ := iter_obj hrg
            have hb1 : Below r w5 w7 := hb.grown hg7 (by rw [← HRr.out]; exact hb.size) (fun j hj => by cases hj; exact Nat.le_refl _)
            have hrow1 := R_grown_obj (d := K4) rfl hrow ho hon hg7
            have hown1 : ∀ z ∈ out, OwnB w7 r z := fun z hz => R_grown_obj (d := Kd.int .u8) rfl (hownb z hz) ho hon hg7
            have hbx : Below w7.heap.size w7 (w7.alloc (.cells #[.int .i64 va, .int .i64 ve, .slice vA zb.length vc] 77)) := (Below.refl _ _).alloc (Nat.le_refl _) _
            have hb5 : Below w5.heap.size w5 w7 := by rw [HRr.out]; exact hb1
            have how := own_calls ⟨va, ve, zb, vA, vc⟩ (w7.alloc (.cells #[.int .i64 va, .int .i64 ve, .slice vA zb.length vc] 77)) ⟨hzc, Kd.C_below hzC (below_step hb5 hbx)⟩ (by show zb.length ≤ _; simp only at hzl; omega)
            simp only at how
            have HX := Lib.hid (And.intro hrg7 (And.intro hlt7 (And.intro hrg.left_eq (And.intro hrow1 (And.intro hown1 (And.intro hb1 (And.intro hcn hcoll)))))))
            have HY := Lib.hid (And.intro hlk (And.intro hz hbx))
            obtain ⟨zl, hzl2⟩ : ∃ zl, zl = zb.length := ⟨_, rfl⟩
            rw [← hzl2] at how hen HY
            clear hrg hrg7 hcn hrow hownb hcoll hb hrow1 hown1 hb1 hb5 hbx hlt7 hg7 hs7 hkey hlk hat hv hyv hzv HRel ea hwa hz hzc hzC hzl ho hon hr hzl2
            go_wp2_with fail
            refine how.mono ?_
            rintro e w8 ⟨z', rfl, hz3, hoz, hb8⟩
            obtain ⟨ya, ye, yb, yA, yc⟩ := z'
            simp only
            have hB8 := below_step HY.out.2.2 hb8
            have hrow8 := Kd.R_below HX.out.2.2.2.1 hB8
            have hown8 : ∀ z ∈ out, OwnB w8 r z := fun z hz => OwnB.below (HX.out.2.2.2.2.1 z hz) hB8
            have hrs : r ≤ w7.heap.size := by have h1 := HX.out.2.2.2.2.2.1.size; have h2 := HRr.out; omega
            have hoz8 : OwnB w8 r ⟨ya, ye, yb, yA, yc⟩ := OwnB.low hoz (Nat.le_trans hrs HY.out.2.2.size)
            have hrg8 := HX.out.1.kept (grown_of_below hB8) (by simp) (by simp)
            have hb88 : Below r w5 w8 := HX.out.2.2.2.2.2.1.grown (grown_of_below hB8) (by have h1 := HX.out.2.2.2.2.2.1.size; have h2 := HRr.out; omega) (fun j hj => by cases hj)
            have H8 := Lib.hid (And.intro hrow8 (And.intro hown8 (And.intro hoz8 (And.intro hrg8 hb88))))
            have HZ8 := Lib.hid hz3
            have hrs8 : r ≤ w8.heap.size := Nat.le_trans hrs hB8.size
            have hl40 : (out.length + 1) * 40 ≤ 140737488355328 := by have := HX.out.2.2.2.2.2.2.1; have := HN5.out.few; omega
            clear how hz3 hoz hb8 hB8 hrow8 hown8 hoz8 hrg8 hb88 hen
            go_wp2_with (first
              | ((with_reducible refine gate_builtin (b := .append) (xs := #[.tmp 45, .tmp 48]) rfl ?_); at_builtin; refine Kd.R_append K4 (w0 := w8) r rfl (.tmp 45) (.tmp 48) 71 77 (.agg #[.int .i64 0, .int .i64 0, .slice none 0 0]) 40 rfl Tryz.underlying71 infoCell rfl (by decide) (by decide) u7 out ⟨ya, ye, yb, yA, yc⟩ (enc4 ⟨ya, ye, yb, yA, yc⟩) (fun _ => True) (fun _ => False) rfl rfl rfl (fun _ hk => hk.elim) (fun _ _ => trivial) H8.out.1 (Below.refl _ _) hrs8 hl40 ?_; intro v1 w9 hR9 hb9 hg9 hat9)
              | go_in)
            have hrg9 := H8.out.2.2.2.1.kept hg9 (map_ne_row4 H8.out.2.2.2.1 H8.out.1) (iter_ne_row H8.out.2.2.2.1 H8.out.1)
            go_roundw
            case rel =>
              refine ⟨_, cnt7, out ++ [⟨ya, ye, yb, yA, yc⟩], hrg9, ?_, hR9, ?_, ?_, ?_⟩
              · have h1 := HX.out.2.2.2.2.2.2.1; have h2 := HX.out.2.1; rw [List.length_append, List.length_singleton]; omega
              · intro z hz
                rcases List.mem_append.1 hz with hz | hz
                · exact OwnB.kept (H8.out.2.1 z hz) H8.out.1 hg9
                · obtain rfl : z = ⟨ya, ye, yb, yA, yc⟩ := by simpa using hz
                  exact OwnB.kept H8.out.2.2.1 H8.out.1 hg9
              · exact HX.out.2.2.2.2.2.2.2.step HN5.out.once HR.out HY.out.2.1 HY.out.1 HZ8.out
              · exact H8.out.2.2.2.2.grown hg9 (by have h1 := H8.out.2.2.2.2.size; have h2 := HRr.out; omega) (fun j hj => Kd.R_base H8.out.1 j hj)
            case measure => rw [hrg9.left_eq, HX.out.2.2.1]; exact HX.out.2.1
/-- Seal by definition, whatever the room is. -/
def sealR (room : Int) (s : S3) (ep : Int) : Int × S3 :=
  if ep < 0 ∨ 1048576 < ep then (2, s) else if ep ≤ s.1 then (7, s) else noteR room s (sealP ep.toNat)
set_option maxRecDepth 1000000 in
set_option maxHeartbeats 8000000 in
theorem seal_full {w0 w : World} {n : NB} {room : Int} {bs : List Int} {ep : Int} {m : List C4} (N : Nd w0 w n room bs bs.length ep m) (epoch : Int) (h0 : 0 ≤ epoch) (h1 : epoch ≤ 1048576) (h2 : ep < epoch) (hfit : room - bs.length < ((frameF (sealP epoch.toNat)).length : Int)) :
    Calls Tryz.prog 30 #[.pointer (some ⟨n.gn, 0, none⟩), .int .i64 epoch] w (SealP w0 w n room (3, (ep, m.map C4.c3, bs))) := by
  obtain ⟨_, c1, _, _⟩ := N.cells
  have HN := Lib.hid N; have HFit := Lib.hid hfit
  clear N hfit
  have h0' : ¬ epoch < 0 := by omega
  have h1' : ¬ 1048576 < epoch := by omega
  have h2' : ¬ epoch ≤ ep := by omega
  go_enter Tryz.func30, Tryz.ntmps30
  go_wp2_with fail
  refine (puint_calls none 0 [] 2 _ (Kd.C_nil _ _) (Nat.zero_le _) (by omega) (by omega) (by simp)).mono ?_
  rintro e w1 ⟨v1, rfl, R1, b1⟩
  obtain ⟨l1, hl1⟩ : ∃ l1, l1 = [] ++ uintW (2 : Int).toNat := ⟨_, rfl⟩
  rw [← hl1] at R1
  obtain ⟨A1, k1, rfl⟩ := Kd.R_slice R1
  obtain ⟨_, hc1, C1⟩ := Kd.R_reads' R1
  have HB1 := Lib.hid b1
  have hq1 : l1.length ≤ 1 := by rw [hl1]; exact Nat.le_refl _
  have hu2 := puint_calls A1 k1 l1 epoch w1 C1 hc1 (by omega) (by omega) (by omega)
  obtain ⟨n1, hn1⟩ : ∃ n1, n1 = l1.length := ⟨_, rfl⟩
  rw [← hn1] at hu2 ⊢
  have HL1 := Lib.hid hl1
  clear hl1 hn1 R1 C1 hc1 b1 hq1
  go_wp2_with fail
  refine hu2.mono ?_
  rintro e w2 ⟨v2, rfl, R2, b2⟩
  obtain ⟨l2, hl2⟩ : ∃ l2, l2 = l1 ++ uintW epoch.toNat := ⟨_, rfl⟩
  rw [← hl2] at R2
  obtain ⟨A2, k2, rfl⟩ := Kd.R_slice R2
  obtain ⟨_, hc2, C2⟩ := Kd.R_reads' R2
  have HB2 := Lib.hid (below_step HB1.out b2)
  have hpay : l2 = sealP epoch.toNat := by rw [hl2, HL1.out]; unfold sealP; rw [List.nil_append]; rfl
  have hpl := sealP_len epoch.toNat
  have hno := note_any (HN.out.below HB2.out) A2 k2 l2 (HN.out.fresh HB1.out.size R2) hc2 (by rw [hpay]; exact sealP_bytes _ (by omega)) (by rw [hpay]; omega)
  have hnr : noteR room (ep, m.map C4.c3, bs) l2 = (3, (ep, m.map C4.c3, bs)) := by rw [hpay]; unfold noteR; rw [if_neg (by have := HFit.out; simp only; omega)]
  rw [hnr] at hno
  obtain ⟨n2, hn2⟩ : ∃ n2, n2 = l2.length := ⟨_, rfl⟩
  rw [← hn2] at hno ⊢
  clear hu2 hl2 hn2 R2 C2 hc2 b2 hpay hpl c1 hnr
  go_wp2_with fail
  refine hno.mono ?_
  rintro e w5 ⟨n', ep', m', rfl, hgd, hgn, N5, hs5, hst5⟩
  have HX := Lib.hid (And.intro hgd (And.intro hgn (And.intro N5 (And.intro hs5 ((Stp.of_below _ HB2.out).trans hst5)))))
  clear hno hgd hgn N5 hs5 hst5
  go_wp2_with fail
  go_ret2
  obtain ⟨hgd, hgn, N5, hs5, hst5⟩ := HX.out
  exact ⟨.slice none 0 0, [], n', ep', m', rfl, Kd.R_nil _ _ _ _ _, fun _ hz => (by cases hz), by rw [if_neg (by simp)], hgd, hgn, N5, hs5, hst5, w5.heap.size, Kd.R_nil _ _ _ _ _, fun _ hz => (by cases hz), fun k hk => N5.lt hk, hst5.size⟩
theorem seal_any {w0 w : World} {n : NB} {room : Int} {bs : List Int} {ep : Int} {m : List C4} (N : Nd w0 w n room bs bs.length ep m) (epoch : Int) :
    Calls Tryz.prog 30 #[.pointer (some ⟨n.gn, 0, none⟩), .int .i64 epoch] w (SealP w0 w n room (sealR room (ep, m.map C4.c3, bs) epoch)) := by
  by_cases hv : (0 ≤ epoch ∧ epoch ≤ 1048576 ∧ ep < epoch) ∧ room - bs.length < ((frameF (sealP epoch.toNat)).length : Int)
  · obtain ⟨⟨h0, h1, h2⟩, h3⟩ := hv
    have hF : sealR room (ep, m.map C4.c3, bs) epoch = (3, (ep, m.map C4.c3, bs)) := by
      unfold sealR noteR
      rw [if_neg (by omega), if_neg (by simp only; omega), if_neg (by simp only; omega)]
    rw [hF]
    exact seal_full N epoch h0 h1 h2 h3
  · have hF : sealR room (ep, m.map C4.c3, bs) epoch = sealF (ep, m.map C4.c3, bs) epoch := by
      unfold sealR sealF
      split
      · rfl
      · rename_i h0
        split
        · rfl
        · rename_i h1
          unfold noteR
          simp only at h1 ⊢
          rw [if_pos (by omega)]
    rw [hF]
    exact seal_fit N epoch (fun h0 h1 h2 => by omega)
end Go.Proofs.YtiinelmednbpmaaGreat.Slot
/- Plain: cells by rising slots (the reference's) against cells as they come. -/
namespace Go.Proofs.YtiinelmednbpmaaGreat.Slot
open Go.Proofs.YtiinelmednbpmaaGreat.Quor
abbrev Srt (l : List B3) : Prop := l.Pairwise fun a b => a.1 < b.1
/-- The list l is the cells m by rising slots. -/
def Rel (m l : List B3) : Prop := Srt l ∧ ∀ c, c ∈ l ↔ c ∈ m
theorem Rel.nil : Rel [] [] := ⟨List.Pairwise.nil, fun _ => Iff.rfl⟩
theorem Srt.uniq : ∀ {l : List B3}, Srt l → ∀ {a b : B3}, a ∈ l → b ∈ l → a.1 = b.1 → a = b
  | x :: r, h, a, b, ha, hb, e => by
    obtain ⟨h1, h2⟩ := List.pairwise_cons.1 h
    rcases List.mem_cons.1 ha with ea | ha2
    · rcases List.mem_cons.1 hb with eb | hb2
      · exact ea.trans eb.symm
      · have := h1 b hb2; rw [ea] at e; omega
    · rcases List.mem_cons.1 hb with eb | hb2
      · have := h1 a ha2; rw [eb] at e; omega
      · exact Srt.uniq h2 ha2 hb2 e
theorem Rel.look {m l : List B3} (h : Rel m l) (a : Int) : look m a = l.find? fun c => decide (c.1 = a) := by
  obtain ⟨hs, hm⟩ := h
  cases hl : l.find? fun c => decide (c.1 = a) with
  | none =>
    have hn := List.find?_eq_none.1 hl
    cases hk : Slot.look m a with
    | none => rfl
    | some d =>
      obtain ⟨q1, q2⟩ := look_mem hk
      have := hn d ((hm d).2 q1)
      simp [q2] at this
  | some c =>
    have q1 := List.mem_of_find?_eq_some hl
    have q2 : c.1 = a := by have := List.find?_some hl; simpa using this
    cases hk : Slot.look m a with
    | none =>
      unfold Slot.look at hk
      have := List.find?_eq_none.1 hk c ((hm c).1 q1)
      simp [q2] at this
    | some d =>
      obtain ⟨p1, p2⟩ := look_mem hk
      rw [hs.uniq ((hm d).2 p1) q1 (p2.trans q2.symm)]
/-- A cell among the cells. -/
def insC (c : B3) : List B3 → List B3
  | [] => [c]
  | x :: r => if x.1 < c.1 then x :: insC c r else if x.1 = c.1 then c :: r else c :: x :: r
theorem mem_insC {c x : B3} : ∀ {l : List B3}, Srt l → (x ∈ insC c l ↔ x = c ∨ (x ∈ l ∧ x.1 ≠ c.1))
  | [], _ => by simp [insC]
  | y :: r, h => by
    obtain ⟨h1, h2⟩ := List.pairwise_cons.1 h
    have ih := mem_insC (c := c) (x := x) h2
    unfold insC
    split
    · rename_i hlt
      rw [List.mem_cons, ih, List.mem_cons]
      constructor
      · rintro (rfl | e | ⟨e1, e2⟩)
        · exact .inr ⟨.inl rfl, by omega⟩
        · exact .inl e
        · exact .inr ⟨.inr e1, e2⟩
      · rintro (e | ⟨e | e1, e2⟩)
        · exact .inr (.inl e)
        · exact .inl e
        · exact .inr (.inr ⟨e1, e2⟩)
    · rename_i hlt
      split
      · rename_i heq
        rw [List.mem_cons, List.mem_cons]
        constructor
        · rintro (e | e)
          · exact .inl e
          · have := h1 x e; exact .inr ⟨.inr e, by omega⟩
        · rintro (e | ⟨e | e1, e2⟩)
          · exact .inl e
          · subst e; exact absurd heq e2
          · exact .inr e1
      · rename_i hne
        rw [List.mem_cons, List.mem_cons]
        constructor
        · rintro (e | e | e)
          · exact .inl e
          · subst e; exact .inr ⟨.inl rfl, hne⟩
          · have := h1 x e; exact .inr ⟨.inr e, by omega⟩
        · rintro (e | ⟨e, _⟩)
          · exact .inl e
          · exact .inr e
theorem srt_insC (c : B3) : ∀ {l : List B3}, Srt l → Srt (insC c l)
  | [], _ => by simp [insC, Srt]
  | y :: r, h => by
    obtain ⟨h1, h2⟩ := List.pairwise_cons.1 h
    unfold insC
    split
    · rename_i hlt
      refine List.pairwise_cons.2 ⟨fun x hx => ?_, srt_insC c h2⟩
      rcases (mem_insC h2).1 hx with rfl | ⟨hx, _⟩
      · exact hlt
      · exact h1 x hx
    · split
      · rename_i heq
        exact List.pairwise_cons.2 ⟨fun x hx => by have := h1 x hx; omega, h2⟩
      · refine List.pairwise_cons.2 ⟨fun x hx => ?_, h⟩
        rcases List.mem_cons.1 hx with rfl | hx
        · omega
        · have := h1 x hx; omega
theorem Rel.put {m l : List B3} (h : Rel m l) (c : B3) : Rel (putC c m) (insC c l) := by
  obtain ⟨hs, hm⟩ := h
  refine ⟨srt_insC c hs, fun x => ?_⟩
  rw [mem_insC hs, hm]
  unfold putC
  rw [List.mem_cons, List.mem_filter]
  simp
theorem srt_ext : ∀ {a b : List B3}, Srt a → Srt b → (∀ c, c ∈ a ↔ c ∈ b) → a = b
  | [], [], _, _, _ => rfl
  | [], y :: r, _, _, h => by have := (h y).2 (by simp); simp at this
  | x :: r, [], _, _, h => by have := (h x).1 (by simp); simp at this
  | x :: r, y :: q, ha, hb, h => by
    obtain ⟨h1, h2⟩ := List.pairwise_cons.1 ha
    obtain ⟨h3, h4⟩ := List.pairwise_cons.1 hb
    have e : x = y := by
      rcases List.mem_cons.1 ((h x).1 (by simp)) with e | e
      · exact e
      · rcases List.mem_cons.1 ((h y).2 (by simp)) with e' | e'
        · exact e'.symm
        · have := h3 x e; have := h1 y e'; omega
    subst e
    have hr : r = q := srt_ext h2 h4 fun c => by
      constructor
      · intro hc
        rcases List.mem_cons.1 ((h c).1 (List.mem_cons_of_mem _ hc)) with e | e
        · subst e; have := h1 c hc; omega
        · exact e
      · intro hc
        rcases List.mem_cons.1 ((h c).2 (List.mem_cons_of_mem _ hc)) with e | e
        · subst e; have := h3 c hc; omega
        · exact e
    rw [hr]
theorem Rel.all {m l : List B3} {out : List C4} (h : Rel m l) (ha : IsAll m out) : out.map C4.c3 = l := by
  refine srt_ext ?_ h.1 fun c => (ha.1 c).trans (h.2 c).symm
  unfold Srt
  rw [List.pairwise_map]
  exact ha.2
/-- One more than the last slot. -/
def lastT (l : List B3) : Int := match l.getLast? with
  | none => 0
  | some c => c.1 + 1
theorem Rel.tail {m l : List B3} (h : Rel m l) (h0 : ∀ c ∈ m, 0 ≤ c.1) : IsTail m (lastT l) := by
  obtain ⟨hs, hm⟩ := h
  unfold lastT
  cases hl : l.getLast? with
  | none =>
    have : l = [] := List.getLast?_eq_none_iff.1 hl
    subst this
    exact ⟨Int.le_refl _, fun c hc => by have := (hm c).2 hc; simp at this, .inl rfl⟩
  | some z =>
    have hz : z ∈ l := List.mem_of_getLast? hl
    have hzm := (hm z).1 hz
    have := h0 z hzm
    refine ⟨by simp only; omega, fun c hc => ?_, .inr ⟨z, hzm, rfl⟩⟩
    obtain ⟨q, rfl⟩ : ∃ q, l = q ++ [z] := by
      obtain ⟨q, hq⟩ := List.getLast?_eq_some_iff.1 hl
      exact ⟨q, hq⟩
    rcases List.mem_append.1 ((hm c).2 hc) with e | e
    · have := (List.pairwise_append.1 hs).2.2 c e z (by simp); simp only; omega
    · rw [List.mem_singleton.1 e]; exact Int.le_refl _
end Go.Proofs.YtiinelmednbpmaaGreat.Slot
/- The walk of Crash. -/
namespace Go.Proofs.YtiinelmednbpmaaGreat.DiskM
open Go.RowKit Go.Proofs.YtiinelmednbpmaaGreatW.PrintWords Go.Proofs.YtiinelmednbpmaaGreatW.PrintLast Go.Proofs.YtiinelmednbpmaaGreatW.PrintMore Go.Proofs.YtiinelmednbpmaaGreat.Row Go.Proofs.YtiinelmednbpmaaGreat.Cut
theorem block_set' {w : World} {g g' j : Nat} {t t' : TypeId} {cs cs' : Array Value} (h : w.heap[g]? = some (.cells cs t (0, 0))) (h' : w.heap[g']? = some (.cells cs' t' (0, 0))) (hne : t ≠ t') (v : Value) : (w.setCell ⟨g', j, none⟩ v).heap[g]? = some (.cells cs t (0, 0)) :=
  (Below.heap_setCell w ⟨g', j, none⟩ v g (blk_ne h h' hne)).trans h
theorem xor_lt (y t : Nat) (hy : y < 256) (ht : t < 8) : y ^^^ 2 ^ t < 256 :=
  Nat.xor_lt_two_pow (n := 8) hy (Nat.pow_lt_pow_right (by omega) ht)
theorem xor8 (y : Nat) (hy : y < 256) (t : Int) (h0 : 0 ≤ t) (h8 : t < 8) : bits .xor .u8 (y : Int) (IntKind.u8.wrap (2 ^ min (IntKind.u64.wrap t).toNat 8)) = ((y ^^^ 2 ^ t.toNat : Nat) : Int) := by
  obtain ⟨m, rfl⟩ := Int.eq_ofNat_of_zero_le h0
  have hm : m < 8 := by omega
  have e : IntKind.u8.wrap (2 ^ min (IntKind.u64.wrap (m : Int)).toNat 8) = ((2 ^ m : Nat) : Int) := by
    rcases (by omega : m = 0 ∨ m = 1 ∨ m = 2 ∨ m = 3 ∨ m = 4 ∨ m = 5 ∨ m = 6 ∨ m = 7) with rfl | rfl | rfl | rfl | rfl | rfl | rfl | rfl <;> decide
  rw [e, Int.toNat_natCast]
  have hb : 2 ^ m < 2 ^ 8 := Nat.pow_lt_pow_right (by omega) hm
  have ha' : y % 2 ^ IntKind.u8.bits = y := Nat.mod_eq_of_lt hy
  have hb' : 2 ^ m % 2 ^ IntKind.u8.bits = 2 ^ m := Nat.mod_eq_of_lt hb
  simp only [bits, BitVec.ofInt_natCast, BitVec.toNat_xor, BitVec.toNat_ofNat, ha', hb']
  exact wraps_u8 _ (Int.natCast_nonneg _) (by have := xor_lt y m hy hm; omega)
def crashN (bs : List Int) (safe : Nat) (keep : Int) : Nat := (min (max keep 0) ((bs.length : Int) - safe)).toNat
def crashL (bs : List Int) (safe : Nat) (keep : Int) : List Int := bs.take (safe + crashN bs safe keep)
def crashM (bs : List Int) (safe : Nat) (keep turn : Int) : List Int :=
  if 0 < crashN bs safe keep ∧ 0 ≤ turn ∧ turn < 8 then (crashL bs safe keep).set ((crashL bs safe keep).length - 1) ((Int.toNat ((crashL bs safe keep).getD ((crashL bs safe keep).length - 1) 0) ^^^ 2 ^ turn.toNat : Nat) : Int) else crashL bs safe keep
set_option maxRecDepth 1000000 in
set_option maxHeartbeats 8000000 in
theorem crash_calls {w0 w : World} {g : Nat} {v : Value} {room : Int} {bs : List Int} {safe : Nat} (D : Dk w0 w g v room bs safe) (keep turn : Int) :
    Calls Tryz.prog 37 #[.pointer (some ⟨g, 0, none⟩), .int .i64 keep, .int .i64 turn] w fun e w' => e = .returned (.tuple #[]) ∧ ∃ v', Dk w0 w' g v' room (crashM bs safe keep turn) (crashM bs safe keep turn).length ∧ Fr w w' g v v' := by
  obtain ⟨A, c, hv, hc, hcm⟩ := D.slice
  have a1 := D.c1; have a2 := D.c2
  have hft := D.fit; have hr1 := D.room1; have hsf := D.sf
  rw [hv] at a1
  have HD := Lib.hid D
  clear D hv
  go_enter Tryz.func37, Tryz.ntmps37
  go_upto_region 1 with fail
  go_cut [6] (fun t wx => t = .int .i64 (crashN bs safe keep : Int) ∧ Drawn0 w wx)
  case first =>
    go_quiet (fail)
    all_goals go_wp2
    all_goals
      go_meet
      case rel =>
        refine ⟨?_, (Drawn0.refl w).step _⟩
        have hcr : ((crashN bs safe keep : Nat) : Int) = min (max keep 0) ((bs.length : Int) - safe) := by unfold crashN; omega
        rw [hcr]
        all_goals (congr 1 <;> omega)
  case rest =>
    obtain ⟨rfl, hd⟩ := hcut
    obtain ⟨n, hn⟩ : ∃ n, n = crashN bs safe keep := ⟨_, rfl⟩
    have hnl : safe + n ≤ bs.length := by rw [hn]; unfold crashN; omega
    have HN := Lib.hid hn
    have D1 := HD.out.step hd.below
    have b2 := D1.c2
    rw [← hn]
    clear hn
    have HD1 := Lib.hid D1
    clear D1 a1 a2
    go_wp2_with fail
    have e1 : (safe : Int) + (n : Int) = ((safe + n : Nat) : Int) := by omega
    rw [e1]
    clear e1
    refine (cut_ok HD1.out (safe + n) hnl).mono ?_
    rintro e w2 ⟨rfl, v2, D2, F2⟩
    have emin : min safe (safe + n) = safe := by omega
    rw [emin] at D2
    clear emin b2
    have hl2 : (bs.take (safe + n)).length = safe + n := by rw [List.length_take]; omega
    obtain ⟨l, hl⟩ : ∃ l, l = bs.take (safe + n) := ⟨_, rfl⟩
    rw [← hl] at D2 hl2
    have HL : Hid (l = crashL bs safe keep) := Lib.hid (by rw [hl, HN.out]; rfl)
    have HM : Hid (crashM bs safe keep turn = if 0 < n ∧ 0 ≤ turn ∧ turn < 8 then l.set (l.length - 1) ((Int.toNat (l.getD (l.length - 1) 0) ^^^ 2 ^ turn.toNat : Nat) : Int) else l) := Lib.hid (by unfold crashM; rw [← HN.out, ← HL.out])
    clear hl
    have HD2 := Lib.hid D2; have HF2 := Lib.hid F2; have HL2 := Lib.hid hl2
    clear D2 F2 hl2
    by_cases hc : 0 < n ∧ 0 ≤ turn ∧ turn < 8
    · rw [if_pos hc] at HM
      obtain ⟨q1, q2, q3⟩ := hc
      obtain ⟨A3, c3, hv3, hc3, hcm3⟩ := HD2.out.slice
      have k1 := HD2.out.c1
      have hlp : l.length - 1 < l.length := by have := HL2.out; omega
      obtain ⟨x, hx⟩ : ∃ x, x = l.getD (l.length - 1) 0 := ⟨_, rfl⟩
      have hxm : x ∈ l := by rw [hx, List.getD_eq_getElem?_getD, List.getElem?_eq_getElem hlp]; exact List.getElem_mem hlp
      obtain ⟨x0, x1⟩ := HD2.out.byte x hxm
      obtain ⟨y, rfl⟩ := Int.eq_ofNat_of_zero_le x0
      obtain ⟨g3, hA3, hcell, hfz⟩ := HD2.out.row.cellAt hv3 (l.length - 1) (.int .u8 y) (by rw [hx]; simp [nums, List.getD_eq_getElem?_getD, List.getElem?_eq_getElem hlp])
      subst hA3
      rw [hv3] at k1
      rw [← hx, Int.toNat_natCast] at HM
      have HV3 := Lib.hid hv3
      have hl0 : 1 ≤ l.length := by have := HL2.out; omega
      have hl1 : l.length ≤ 1048576 := by have := HD2.out.fit; omega
      clear hv3 hx hxm
      have s1 : IntKind.i64.wrap ((l.length : Int) - 1) = (l.length : Int) - 1 := IntWalk.i64_in _ (by omega)
      have s2 : 0 ≤ (l.length : Int) - 1 := by omega
      have s3 : (l.length : Int) - 1 < (l.length : Int) := by omega
      have s4 : ((l.length : Int) - 1).toNat = l.length - 1 := by omega
      have s5 : 1 ≤ (l.length : Int) := by omega
      have s6 : 0 < (l.length : Int) := by omega
      have s7 : 0 < l.length := by omega
      go_wp2_with fail
      go_still_tail 17, (by kernel_rfl)
      rw [xor8 y (by omega) turn q2 q3]
      change wpList _ _ _ _ _ w2.drew
      have hm1 : (l.set (l.length - 1) ((y ^^^ 2 ^ turn.toNat : Nat) : Int)).length = l.length := List.length_set
      have D3 : Dk w0 (w2.drew.setCell ⟨g3, l.length - 1, none⟩ (.int .u8 ((y ^^^ 2 ^ turn.toNat : Nat) : Int))) g v2 room (l.set (l.length - 1) ((y ^^^ 2 ^ turn.toNat : Nat) : Int)) safe := by
        have D2 := HD2.out.step (w' := w2.drew) (Below.refl _ _).drew
        have hg3 := D2.row.lt g3 (by rw [HV3.out]; rfl)
        obtain ⟨hg30, _, cur, hcur⟩ := hg3
        refine ⟨below_set D2.below hg30, D2.kg, block_set' D2.blk hcur (by decide) _, ?_, D2.room1, by rw [hm1]; exact D2.fit, by rw [hm1]; exact D2.sf, fun x hx => ?_⟩
        · have := D2.row.set HV3.out (l.length - 1) (by rw [nums_length]; omega) (.int .u8 ((y ^^^ 2 ^ turn.toNat : Nat) : Int))
          unfold nums at this ⊢
          rw [List.map_set]; exact this
        · rcases List.mem_or_eq_of_mem_set hx with hx | rfl
          · exact D2.byte x hx
          · have := xor_lt y turn.toNat (by omega) (by omega)
            omega
      have F3 : Fr w2 (w2.drew.setCell ⟨g3, l.length - 1, none⟩ (.int .u8 ((y ^^^ 2 ^ turn.toNat : Nat) : Int))) g v2 v2 :=
        ⟨by simp, fun k _ _ hk => set_other _ (fun e => hk (by rw [HV3.out, e]; rfl)), .inr (.inl rfl)⟩
      have fin : Calls Tryz.prog 68 #[.pointer (some ⟨g, 0, none⟩)] (w2.drew.setCell ⟨g3, l.length - 1, none⟩ (.int .u8 ((y ^^^ 2 ^ turn.toNat : Nat) : Int))) fun e w' => e = .returned (.tuple #[]) ∧ ∃ v', Dk w0 w' g v' room (crashM bs safe keep turn) (crashM bs safe keep turn).length ∧ Fr w w' g v v' := by
        refine (sync_calls D3).mono ?_
        rintro e w3 ⟨rfl, hd3, hf3⟩
        refine ⟨rfl, v2, ?_, Fr.after hd.below (HF2.out.trans (F3.trans hf3))⟩
        rw [HM.out]; exact hd3
      have FIN := Lib.hid fin
      generalize ((y ^^^ 2 ^ turn.toNat : Nat) : Int) = z at *
      clear fin D3 F3 hm1
      have hcell' : w2.drew.cell? ⟨g3, l.length - 1, none⟩ = some (.int .u8 y) := hcell
      have hfz' : w2.drew.frozen? ⟨g3, l.length - 1, none⟩ = false := hfz
      generalize w2.drew = W3 at *
      go_wp2_with fail
      refine FIN.out.mono ?_
      rintro e w3 ⟨rfl, h⟩
      go_wp2_with fail
      go_end0
      exact ⟨rfl, h⟩
    · rw [if_neg hc] at HM
      have fin : ∀ W, W = w2 → Calls Tryz.prog 68 #[.pointer (some ⟨g, 0, none⟩)] W fun e w' => e = .returned (.tuple #[]) ∧ ∃ v', Dk w0 w' g v' room (crashM bs safe keep turn) (crashM bs safe keep turn).length ∧ Fr w w' g v v' := by
        rintro W rfl
        refine (sync_calls HD2.out).mono ?_
        rintro e w3 ⟨rfl, hd3, hf3⟩
        refine ⟨rfl, v2, ?_, Fr.after hd.below (HF2.out.trans hf3)⟩
        rw [HM.out]; exact hd3
      have FIN := Lib.hid fin
      clear fin
      by_cases h1 : 0 < n
      · by_cases h2 : 0 ≤ turn
        · have h3 : ¬ turn < 8 := fun h => hc ⟨h1, h2, h⟩
          clear hc
          go_wp2_with fail
          refine (FIN.out _ rfl).mono ?_
          rintro e w3 ⟨rfl, h⟩
          go_wp2_with fail
          go_end0
          exact ⟨rfl, h⟩
        · clear hc
          go_wp2_with fail
          refine (FIN.out _ rfl).mono ?_
          rintro e w3 ⟨rfl, h⟩
          go_wp2_with fail
          go_end0
          exact ⟨rfl, h⟩
      · clear hc
        go_wp2_with fail
        refine (FIN.out _ rfl).mono ?_
        rintro e w3 ⟨rfl, h⟩
        go_wp2_with fail
        go_end0
        exact ⟨rfl, h⟩
end Go.Proofs.YtiinelmednbpmaaGreat.DiskM
/- Deeds, Crash, what is kept (SStay without its law: for seat .Z). -/
namespace Go.Proofs.YtiinelmednbpmaaGreat.Slot
open Go.RowKit Go.Maps Go.Proofs.YtiinelmednbpmaaGreatW.PrintWords Go.Proofs.YtiinelmednbpmaaGreatW.PrintMore Go.Proofs.YtiinelmednbpmaaGreatW.PrintLast Go.Proofs.YtiinelmednbpmaaGreat.Row Go.Proofs.YtiinelmednbpmaaGreat.Cut Go.Proofs.YtiinelmednbpmaaGreat.DiskM Go.Proofs.YtiinelmednbpmaaGreat.Quor
open Go.Proofs.YtiinelmednbpmaaGreat.Crc
/- What the laws over deeds share. -/
theorem blk_add (a : Addr) (i : Nat) : (a.add i).block = a.block := by unfold Addr.add; split <;> rfl
abbrev D6 := Int × Int × Int × Int × Int × List Int
abbrev deedK : Kd D6 := Kd.pair (Kd.int .i64) (Kd.pair (Kd.int .i64) (Kd.pair (Kd.int .i64) (Kd.pair (Kd.int .i64) (Kd.pair (Kd.int .i64) (Kd.slice 5 (Kd.int .u8))))))
theorem at_deed {w : World} {A : Option Addr} {n : Nat} {l : List D6} (h : deedK.C w A n l) (i : Nat) (hi : i < n) :
    ∃ ad x1 x2 x3 x4 x5 x6 Ai ci, A = some ad ∧ l[i]? = some (x1, x2, x3, x4, x5, x6) ∧ w.cell? (ad.add (i * 6)) = some (.int .i64 x1) ∧ w.cell? ⟨(ad.add (i * 6)).block, (ad.add (i * 6)).off + 1, none⟩ = some (.int .i64 x2) ∧ w.cell? ⟨(ad.add (i * 6)).block, (ad.add (i * 6)).off + 2, none⟩ = some (.int .i64 x3) ∧ w.cell? ⟨(ad.add (i * 6)).block, (ad.add (i * 6)).off + 3, none⟩ = some (.int .i64 x4) ∧ w.cell? ⟨(ad.add (i * 6)).block, (ad.add (i * 6)).off + 4, none⟩ = some (.int .i64 x5) ∧ w.cell? ⟨(ad.add (i * 6)).block, (ad.add (i * 6)).off + 5, none⟩ = some (.slice Ai x6.length ci) ∧ x6.length ≤ ci ∧ (Kd.int .u8).C w Ai x6.length x6 := by
  obtain ⟨hl, _, h⟩ := h
  obtain ⟨ad, hA, hc⟩ := h (by omega)
  obtain ⟨x, hx⟩ : ∃ x, l[i]? = some x := ⟨_, List.getElem?_eq_getElem (by omega)⟩
  obtain ⟨cs, _, hk, hat⟩ := hc i x hx
  obtain ⟨x1, x2, x3, x4, x5, x6⟩ := x
  obtain ⟨e0, r0, rfl, h0, e1, r1, rfl, h1, e2, r2, rfl, h2, e3, r3, rfl, h3, e4, r4, rfl, h4, Ai, ci, h5, hci, hC⟩ := hk
  obtain rfl : e0 = [.int .i64 x1] := h0
  obtain rfl : e1 = [.int .i64 x2] := h1
  obtain rfl : e2 = [.int .i64 x3] := h2
  obtain rfl : e3 = [.int .i64 x4] := h3
  obtain rfl : e4 = [.int .i64 x5] := h4
  subst h5
  have e : deedK.sz = 6 := rfl
  rw [e] at hat
  have f (j : Nat) : ad.add (i * 6 + (j + 1)) = ⟨(ad.add (i * 6)).block, (ad.add (i * 6)).off + (j + 1), none⟩ := by rw [← Addr.add_add]; rfl
  refine ⟨ad, x1, x2, x3, x4, x5, x6, Ai, ci, hA, hx, hat 0 _ rfl, ?_, ?_, ?_, ?_, ?_, hci, hC⟩
  · rw [← f 0]; exact hat 1 _ rfl
  · rw [← f 1]; exact hat 2 _ rfl
  · rw [← f 2]; exact hat 3 _ rfl
  · rw [← f 3]; exact hat 4 _ rfl
  · rw [← f 4]; exact hat 5 _ rfl
section
variable {w0 w w' : World} {n : NB} {g : Nat} {gd : Nat × (Nat → Prop)} {room : Int} {s : S3}
theorem NS.nlt (h : NS w0 w n g gd room s) {k : Nat} (hk : w.heap.size ≤ k) : ¬ SN n k := fun e => by have := h.lt e; omega
theorem NS.foot (h : NS w0 w n g gd room s) {z : C4} (hO : OwnB w' w.heap.size z) : Kd.F (Kd.int .u8) w' (fun k => ¬ SN n k) z.A z.by_.length z.by_ :=
  Kd.F_mono (Kd.R_F (Kd.R_bound hO)) fun _ hk => h.nlt hk.2.1
theorem NS.crash (h : NS w0 w n g gd room s) {v' : Value} (f : Fr w w' gd.1 n.vd v') : Stp w w' (SN n) (DB gd.1 v') := by
  obtain ⟨_, rfl, _⟩ := h
  refine ⟨f.1, fun k hk hs => f.2.1 k hk (fun e => hs (.inl (.inl e))) (fun e => hs (.inl (.inr (.inl e)))), fun k hk => ?_⟩
  rcases hk with e | e
  · exact .inl (.inl (.inl e))
  · rcases f.2.2 with q | q | ⟨b, q, hb⟩
    · rw [q] at e; cases e
    · exact .inl (.inl (.inr (.inl (e.trans q))))
    · rw [q] at e; injection e with e; exact .inr (by omega)
end
theorem foot_step {w w' : World} {S S' : Nat → Prop} {A : Option Addr} {n : Nat} {l : List Int} (h : Kd.F (Kd.int .u8) w (fun k => ¬ S k) A n l) (T : Stp w w' S S') : (Kd.int .u8).C w' A n l :=
  h w' fun k hk hlt => T.keep k hlt hk
theorem strOf_inj : ∀ {a b : List Int}, (∀ x ∈ a, 0 ≤ x ∧ x ≤ 255) → (∀ x ∈ b, 0 ≤ x ∧ x ≤ 255) → strOfNums a = strOfNums b → a = b := by
  intro a b ha hb h
  have h1 : (a.map fun n => UInt8.ofNat n.toNat) = b.map fun n => UInt8.ofNat n.toNat := by
    have := congrArg (fun t : ByteArray => t.data.toList) h
    simpa [strOfNums_data] using this
  clear h
  induction a generalizing b with
  | nil => cases b with
    | nil => rfl
    | cons y r => simp at h1
  | cons x l ih => cases b with
    | nil => simp at h1
    | cons y r =>
      rw [List.map_cons, List.map_cons] at h1
      injection h1 with e1 e2
      have q1 := ha x (by simp)
      have q2 := hb y (by simp)
      have e3 := congrArg UInt8.toNat e1
      rw [UInt8.toNat_ofNat', UInt8.toNat_ofNat', Nat.mod_eq_of_lt (by omega), Nat.mod_eq_of_lt (by omega)] at e3
      have : x = y := by omega
      rw [this, ih (fun z hz => ha z (by simp [hz])) (fun z hz => hb z (by simp [hz])) e2]
theorem crash_synced (bs : List Int) (keep turn : Int) : crashM bs bs.length keep turn = bs := by
  have h : crashN bs bs.length keep = 0 := by unfold crashN; omega
  unfold crashM crashL
  rw [h, if_neg (by omega), Nat.add_zero, List.take_length]
/-- The disk's bytes are frames, and they tell the node. -/
def Inv (s : S3) : Prop := ∃ pls : List (List Int), (∀ p ∈ pls, p.length ≤ 4096) ∧ s.2.2 = framesF pls ∧ foldF pls = (s.1, s.2.1)
theorem Inv.new : Inv (0, [], []) := ⟨[], fun _ h => (by cases h), rfl, rfl⟩
theorem Inv.note {s : S3} (h : Inv s) (p : List Int) (hp : p.length ≤ 4096) : Inv (noteF s p) := by
  obtain ⟨pls, h1, h2, h3⟩ := h
  refine ⟨pls ++ [p], fun x hx => ?_, ?_, ?_⟩
  · rcases List.mem_append.1 hx with hx | hx
    · exact h1 x hx
    · rw [List.mem_singleton.1 hx]; exact hp
  · unfold noteF framesF
    simp only
    rw [h2]
    simp [framesF]
  · rw [foldF_snoc, h3]; rfl
theorem Inv.write {s : S3} (h : Inv s) (ep at_ : Int) (b : List Int) : Inv (writeF s ep at_ b).2 := by
  have hn (hh : ¬ (at_ < 0 ∨ 4096 ≤ at_ ∨ ep < 0 ∨ 1048576 < ep ∨ 2048 < b.length)) : Inv (noteF s (writeP ep.toNat at_.toNat b)) :=
    h.note _ (by have := writeP_len ep.toNat at_.toNat b (by omega) (by omega); omega)
  unfold writeF
  split
  · exact h
  · rename_i hh
    split
    · exact h
    · split
      · exact hn hh
      · split
        · split
          · exact h
          · exact h
        · exact hn hh
theorem Inv.seal {s : S3} (h : Inv s) (ep : Int) : Inv (sealF s ep).2 := by
  unfold sealF
  split
  · exact h
  · split
    · exact h
    · exact h.note _ (by have := sealP_len ep.toNat; omega)
theorem Inv.open_ {s : S3} (h : Inv s) : ((foldF (scanF s.2.2).1).1, (foldF (scanF s.2.2).1).2, s.2.2.take (scanF s.2.2).2) = s := by
  obtain ⟨pls, h1, h2, h3⟩ := h
  have hs := scanF_frames pls [] h1 (.inl rfl)
  rw [List.append_nil, ← h2] at hs
  rw [hs]
  simp only
  rw [h3, List.take_length]
end Go.Proofs.YtiinelmednbpmaaGreat.Slot
