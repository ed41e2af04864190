import Derived.Test.YtanhibhcmfmeeaaKvPut2
/- A store of pairs: Put where there is room. -/
namespace Go.Proofs.Ytanhibhcmfmeeaa.Kv
open Go.RowKit Go.Proofs.YtanhibhcmfmeeaaW.PrintWords Go.Proofs.YtanhibhcmfmeeaaW.PrintMore Go.Proofs.Ytanhibhcmfmeeaa.Cut Go.Proofs.Ytanhibhcmfmeeaa.Fr Go.Proofs.Ytanhibhcmfmeeaa.SlK
def PutP (w : World) (B s : Nat) (room : Int) (l : L2) (v : Value) (key val : Int) (e : Ending) (w' : World) : Prop :=
  ∃ v', e = .returned (.tuple #[chgV key 0 0 val false, .int .i64 0]) ∧ Own w' B s room (putL key val l) v' ∧ Mv w w' (F s v) (F s v')
/-- The change's row, as it was made. -/
structure ZR (w : World) (q : Nat) : Prop where
  row : w.heap[q]? = some zrow
  z0 : w.cell? ⟨q, 0, none⟩ = some (.int .i64 0)
  z1 : w.cell? ⟨q, 1, none⟩ = some (.int .i64 0)
  z2 : w.cell? ⟨q, 2, none⟩ = some (.int .i64 0)
  z3 : w.cell? ⟨q, 3, none⟩ = some (.int .i64 0)
  z4 : w.cell? ⟨q, 4, none⟩ = some (.bool false)
  y0 : w.frozen? ⟨q, 0, none⟩ = false
  y1 : w.frozen? ⟨q, 1, none⟩ = false
  y2 : w.frozen? ⟨q, 2, none⟩ = false
  y3 : w.frozen? ⟨q, 3, none⟩ = false
  y4 : w.frozen? ⟨q, 4, none⟩ = false
theorem ZR.of {w : World} {q : Nat} (h : w.heap[q]? = some zrow) : ZR w q :=
  ⟨h, (blk_cell h 0).trans rfl, (blk_cell h 1).trans rfl, (blk_cell h 2).trans rfl, (blk_cell h 3).trans rfl, (blk_cell h 4).trans rfl, blk_frozen h 0, blk_frozen h 1, blk_frozen h 2, blk_frozen h 3, blk_frozen h 4⟩
/-- What is left when the row is written: kept apart from the new row q. -/
theorem fin_put {w W : World} {B s q : Nat} {room : Int} {l : L2} {v v' : Value} {key val : Int} (hO : Own W B s room (putL key val l) v') (hM : Mv w W (F s v) (F s v')) (hq : w.heap.size ≤ q) (hqF : ¬ F s v' q) (u0 u1 u2 u3 u4 : Value) :
    Own (((((W.setCell ⟨q, 0, none⟩ u0).setCell ⟨q, 1, none⟩ u1).setCell ⟨q, 2, none⟩ u2).setCell ⟨q, 3, none⟩ u3).setCell ⟨q, 4, none⟩ u4) B s room (putL key val l) v' ∧
    Mv w (((((W.setCell ⟨q, 0, none⟩ u0).setCell ⟨q, 1, none⟩ u1).setCell ⟨q, 2, none⟩ u2).setCell ⟨q, 3, none⟩ u3).setCell ⟨q, 4, none⟩ u4) (F s v) (F s v') := by
  constructor
  · refine hO.kept fun k hk => ?_
    have hne : k ≠ q := fun e => hqF (e ▸ hk)
    rw [Below.heap_setCell _ ⟨q, 4, none⟩ _ k hne, Below.heap_setCell _ ⟨q, 3, none⟩ _ k hne, Below.heap_setCell _ ⟨q, 2, none⟩ _ k hne, Below.heap_setCell _ ⟨q, 1, none⟩ _ k hne, Below.heap_setCell _ ⟨q, 0, none⟩ _ k hne]
  · exact mv_set (mv_set (mv_set (mv_set (mv_set hM (.inr hq) _) (.inr hq) _) (.inr hq) _) (.inr hq) _) (.inr hq) _
set_option maxHeartbeats 4000000 in
theorem put_found {w : World} {B s : Nat} {room : Int} {l : L2} {v : Value} (h : Own w B s room l v) (key val x : Int) (hn : look l key = some x) :
    Calls Try.prog 38 #[.pointer (some ⟨s, 0, none⟩), .int .i64 key, .int .i64 val] w (PutP w B s room l v key val) := by
  have hfi := find_calls (h.below (below_alloc (Below.refl _ _) zrow)) key
  have hrow : (w.alloc zrow).heap[w.heap.size]? = some zrow := (Go.MapKept.heap_alloc w zrow).1
  have hx := look_some h.sorted hn
  have hil := (List.getElem?_eq_some_iff.1 hx).1
  have hput : putL key val l = l.set (idx key l) (key, val) := by unfold putL; rw [hn]; rfl
  rw [hn] at hfi
  have HO := Lib.hid h
  have h1024 : l.length ≤ 1024 := by have := h.fits; have := h.rng; omega
  rcases h.pairs.2 with ⟨rfl, h0⟩ | ⟨g, cap, cur, rfl, hg, hh, k1, k2, k3, k4⟩
  · omega
  obtain ⟨A', c', hv', _, hcl⟩ := row_cells h.pairs
  obtain ⟨g', hA', hcell⟩ := hcl _ _ hx
  injection hv' with hv' _ _
  rw [hA'] at hv'
  injection hv' with hv'
  injection hv' with hv' _ _
  subst hv'
  simp only at hcell
  have hset := enc2_set l (idx key l) (key, x) val hx
  have HP := Lib.hid (And.intro hput (And.intro hset hh))
  generalize hi : idx key l = i at *
  have hii : (i : Int) < (l.length : Int) := by omega
  clear h hn hx hput hset hg hh k3 k4 hi hcl
  go_enter Try.func38, Try.ntmps38
  go_wp2_with fail
  refine hfi.mono ?_
  rintro e w1 ⟨rfl, hB⟩
  have hB2 := below_then (below_alloc (Below.refl _ _) zrow) (by simp) hB
  have hO1 := HO.out.below hB2
  obtain ⟨c0, c1⟩ := hO1.cells
  have hg1 := (hB2.block g (Array.getElem?_eq_some_iff.1 HP.out.2.2).1).trans HP.out.2.2
  have f1 := blk_frozen hg1 (i * 2 + 1)
  have hq := (hB.block w.heap.size (by simp)).trans hrow
  have hqg : w.heap.size ≠ g := by have := (Array.getElem?_eq_some_iff.1 HP.out.2.2).1; omega
  have HQ := Lib.hid hq; have HB := Lib.hid hB2; have HO1 := Lib.hid hO1
  have d1 := (hcell _ hB2).2
  clear hB hB2 hO1 hrow hq hfi hg1 hcell
  go_upto_region 7 with fail
  obtain ⟨W2, hW2⟩ : ∃ W, W = w1.setCell ⟨g, i * 2 + 1, none⟩ (.int .i64 val) := ⟨_, rfl⟩
  rw [← hW2]
  have hst := HO1.out.pairs.stored (i * 2 + 1) (.int .i64 val)
  rw [← hW2] at hst
  rw [HP.out.2.1] at hst
  have hll : (l.set i (key, val)).length = l.length := List.length_set
  have hO2 : Own W2 B s room (putL key val l) (.slice (some ⟨g, 0, none⟩) l.length cap) := by
    refine ⟨?_, ?_, ?_, HO.out.rng, ?_, HO.out.base⟩
    · rw [hW2, Below.heap_setCell _ ⟨g, i * 2 + 1, none⟩ _ s (fun e => HO.out.ne (by rw [e]; rfl))]
      exact HO1.out.row
    · rw [HP.out.1, hll]; exact hst.1
    · exact sorted_put key val HO.out.sorted
    · rw [HP.out.1, hll]; exact HO.out.fits
  have hM2 : Mv w W2 (F s (.slice (some ⟨g, 0, none⟩) l.length cap)) (F s (.slice (some ⟨g, 0, none⟩) l.length cap)) := by
    rw [hW2]
    exact mv_set (Mv.of_below _ HB.out) (.inl (.inr rfl)) _
  have hZ : ZR W2 w.heap.size := .of (by rw [hW2, Below.heap_setCell _ ⟨g, i * 2 + 1, none⟩ _ w.heap.size hqg]; exact HQ.out)
  have hnF : ¬ F s (.slice (some ⟨g, 0, none⟩) l.length cap) w.heap.size := fun e => by have := (HO.out.lt _ e).2; omega
  obtain ⟨hr, z0, z1, z2, z3, z4, y0, y1, y2, y3, y4⟩ := hZ
  have HO2 := Lib.hid hO2; have HM2 := Lib.hid hM2; have HR := Lib.hid hr; have HN := Lib.hid hnF
  clear hO2 hM2 hr hst hW2 HO1 HQ d1 f1 c0 c1 hnF hll
  go_wp2_with fail
  refine bodyPost_ret (results_ct rfl _ _ w.heap.size 50 #[.int .i64 key, .int .i64 0, .int .i64 0, .int .i64 val, .bool false] (0, 0) _ rfl ?hp Try.underlying50 rfl (by kernel_rfl)) rfl ?_
  case hp =>
    exact blk_put (blk_put (blk_put (blk_put (blk_put HR.out 0 _ rfl) 1 _ rfl) 2 _ rfl) 3 _ rfl) 4 _ rfl
  · obtain ⟨q1, q2⟩ := fin_put HO2.out HM2.out (Nat.le_refl _) HN.out (.int .i64 key) (.int .i64 0) (.int .i64 0) (.int .i64 val) (.bool false)
    exact ⟨_, rfl, q1, q2⟩
set_option maxHeartbeats 4000000 in
theorem put_new {w : World} {B s : Nat} {room : Int} {l : L2} {v : Value} (h : Own w B s room l v) (key val : Int) (hn : look l key = none) (hf : (l.length : Int) < room) :
    Calls Try.prog 38 #[.pointer (some ⟨s, 0, none⟩), .int .i64 key, .int .i64 val] w (PutP w B s room l v key val) := by
  have hfi := find_calls (h.below (below_alloc (Below.refl _ _) zrow)) key
  have hrow : (w.alloc zrow).heap[w.heap.size]? = some zrow := (Go.MapKept.heap_alloc w zrow).1
  have hput : putL key val l = l.take (idx key l) ++ (key, val) :: l.drop (idx key l) := by unfold putL; rw [hn]; rfl
  have hlen : (putL key val l).length = l.length + 1 := by have := len_put key val h.sorted; rw [hn] at this; simpa using this
  have hle := idx_le key l
  rw [hn] at hfi
  have HO := Lib.hid h
  have h1024 : l.length ≤ 1024 := by have := h.fits; have := h.rng; omega
  obtain ⟨A, c, rfl, hc, _⟩ := row_cells h.pairs
  have hins := fun (W : World) (hO : Own W B s room l (.slice A l.length c)) (vb : Nat) (hv : W.heap[vb]? = some (.cells #[.int .i64 key, .int .i64 val] 97 (0, 0))) (hne : some vb ≠ (Value.slice A l.length c).ownBlock) =>
    ins_calls W B (.slice A l.length c) l.length (idx key l) (l.flatMap enc2) [.int .i64 key, .int .i64 val] vb hO.pairs (by have := (hO.lt s (.inl rfl)); omega) hle (by omega) (enc2_one l) hv rfl (by simp; exact ⟨rfl, rfl⟩) hne
  have hcs : (l.flatMap enc2).take (idx key l * 2) ++ [.int .i64 key, .int .i64 val] ++ (l.flatMap enc2).drop (idx key l * 2) = (putL key val l).flatMap enc2 := by
    rw [hput, enc2_take, enc2_drop, List.flatMap_append, List.flatMap_cons, List.append_assoc]; rfl
  have HP := Lib.hid (And.intro hput (And.intro hlen hcs))
  have HI := Lib.hid hins
  generalize hi : idx key l = i at *
  clear h hn hput hlen hle hins hcs hi
  have t1 : decide (room ≤ (l.length : Int)) = false := decide_eq_false (by omega)
  go_enter Try.func38, Try.ntmps38
  go_wp2_with fail
  refine hfi.mono ?_
  rintro e w1 ⟨rfl, hB⟩
  have hB2 := below_then (below_alloc (Below.refl _ _) zrow) (by simp) hB
  have hO1 := HO.out.below hB2
  obtain ⟨c0, c1⟩ := hO1.cells
  have hq := (hB.block w.heap.size (by simp)).trans hrow
  have HQ := Lib.hid hq; have HB := Lib.hid hB2; have HO1 := Lib.hid hO1
  clear hB hB2 hO1 hrow hq hfi hf
  go_wp2_with fail
  go_quiet (fail)
  go_wp2_with fail
  have hsl := (HO1.out.lt s (.inl rfl)).2
  obtain ⟨W2, hW2⟩ : ∃ W, W = (w1.drewN nq).alloc (.cells #[.int .i64 key, .int .i64 val] 97) := ⟨_, rfl⟩
  rw [← hW2]
  have hB2 : Below w1.heap.size w1 W2 := by rw [hW2]; exact below_alloc (pw_below_drewN (Below.refl _ _) nq) _
  have hO2 := HO1.out.below hB2
  have hv2 : W2.heap[w1.heap.size]? = some (.cells #[.int .i64 key, .int .i64 val] 97 (0, 0)) := by rw [hW2]; exact (Go.MapKept.heap_alloc (w1.drewN nq) _).1
  have hne : some w1.heap.size ≠ (Value.slice A l.length c).ownBlock := fun e => by have := (HO1.out.lt w1.heap.size (.inr e)).2; omega
  refine (HI.out W2 hO2 w1.heap.size hv2 hne).mono ?_
  rintro e w3 ⟨v', rfl, hown, hg3, hat⟩
  obtain ⟨A', c', rfl⟩ := own_slice hown
  have hrow3 := (hg3.block s (by have := hB2.size; omega) HO.out.ne).trans hO2.row
  have c0' : w3.cell? ⟨s, 0, none⟩ = some (.int .i64 room) := (blk_cell hrow3 0).trans rfl
  have c1' : w3.cell? ⟨s, 1, none⟩ = some (.slice A l.length c) := (blk_cell hrow3 1).trans rfl
  have f1 := blk_frozen hrow3 1
  have hq2 := (hB2.block w.heap.size (Array.getElem?_eq_some_iff.1 HQ.out).1).trans HQ.out
  have hnv : some w.heap.size ≠ (Value.slice A l.length c).ownBlock := fun e => by have := (HO.out.lt w.heap.size (.inr e)).2; omega
  have hq3 := (hg3.block w.heap.size (Array.getElem?_eq_some_iff.1 hq2).1 hnv).trans hq2
  have hM3 : Mv w w3 (F s (.slice A l.length c)) (F s (.slice A' (l.length + 1) c')) := by
    refine ((Mv.of_below (F s (.slice A l.length c)) HB.out).trans (Mv.of_below _ hB2)).trans (Mv.of_grown hg3 (fun k e => .inr e.symm) fun k hk => ?_)
    rcases hk with hk | hk
    · exact .inl (.inl hk)
    · rcases hat with hat | ⟨b, hb, hb2⟩
      · exact .inl (.inr (hat ▸ hk))
      · rw [hb] at hk
        injection hk with hk
        exact .inr (hk ▸ hb2)
  have HM3 := Lib.hid hM3; have HW3 := Lib.hid hown; have HQ3 := Lib.hid hq3; have HR3 := Lib.hid hrow3
  clear hown hg3 hat hrow3 hq2 hq3 hM3 hO2 hv2 hne hB2 hW2 HQ c0 c1
  have hsq : s ≠ w.heap.size := by have := (HO.out.lt s (.inl rfl)).2; omega
  go_upto_region 7 with fail
  obtain ⟨W4, hW4⟩ : ∃ W, W = w3.setCell ⟨s, 1, none⟩ (.slice A' (l.length + 1) c') := ⟨_, rfl⟩
  rw [← hW4]
  have hown4 : W4.ownsRow B 97 2 (.slice A' (l.length + 1) c') (l.length + 1) ((putL key val l).flatMap enc2) := by
    have h1 := HW3.out
    rw [HP.out.2.2] at h1
    refine own_move h1 fun k hk => ?_
    rw [hW4]
    refine Below.heap_setCell _ ⟨s, 1, none⟩ _ k fun e => ?_
    rw [show k = s from e] at hk
    obtain ⟨cells, hc⟩ := own_typed h1 s hk
    rw [HR3.out] at hc
    injection hc with hc
    injection hc with _ hc
    exact absurd hc (by decide)
  have hO4 : Own W4 B s room (putL key val l) (.slice A' (l.length + 1) c') := by
    refine ⟨?_, by rw [HP.out.2.1]; exact hown4, sorted_put key val HO.out.sorted, HO.out.rng, by rw [HP.out.2.1]; push_cast; have := of_decide_eq_false t1; omega, HO.out.base⟩
    rw [hW4]
    exact blk_put HR3.out 1 _ rfl
  have hM4 : Mv w W4 (F s (.slice A l.length c)) (F s (.slice A' (l.length + 1) c')) := by
    rw [hW4]
    exact mv_set HM3.out (.inl (.inl rfl)) _
  have hZ : ZR W4 w.heap.size := .of (by rw [hW4, Below.heap_setCell _ ⟨s, 1, none⟩ _ w.heap.size (fun e => hsq e.symm)]; exact HQ3.out)
  have hnF : ¬ F s (.slice A' (l.length + 1) c') w.heap.size := by
    rintro (e | e)
    · exact hsq e.symm
    · obtain ⟨cells, hc⟩ := own_typed hown4 w.heap.size e.symm
      rw [hZ.row] at hc
      injection hc with hc
      injection hc with _ hc
      exact absurd hc (by decide)
  obtain ⟨hr, z0, z1, z2, z3, z4, y0, y1, y2, y3, y4⟩ := hZ
  have HO4 := Lib.hid hO4; have HM4 := Lib.hid hM4; have HR := Lib.hid hr; have HN := Lib.hid hnF
  clear hO4 hM4 hr hown4 hW4 HO1 HQ3 HR3 HW3 HM3 c0' c1' f1 hnF
  go_wp2_with fail
  refine bodyPost_ret (results_ct rfl _ _ w.heap.size 50 #[.int .i64 key, .int .i64 0, .int .i64 0, .int .i64 val, .bool false] (0, 0) _ rfl ?hp Try.underlying50 rfl (by kernel_rfl)) rfl ?_
  case hp =>
    exact blk_put (blk_put (blk_put (blk_put (blk_put HR.out 0 _ rfl) 1 _ rfl) 2 _ rfl) 3 _ rfl) 4 _ rfl
  · obtain ⟨q1, q2⟩ := fin_put HO4.out HM4.out (Nat.le_refl _) HN.out (.int .i64 key) (.int .i64 0) (.int .i64 0) (.int .i64 val) (.bool false)
    exact ⟨_, rfl, q1, q2⟩
/-- Put where there is room. -/
theorem put_ok {w : World} {B s : Nat} {room : Int} {l : L2} {v : Value} (h : Own w B s room l v) (key val : Int) (hf : look l key = none → (l.length : Int) < room) :
    Calls Try.prog 38 #[.pointer (some ⟨s, 0, none⟩), .int .i64 key, .int .i64 val] w (PutP w B s room l v key val) := by
  cases hl : look l key with
  | none => exact put_new h key val hl (hf hl)
  | some x => exact put_found h key val x hl
end Go.Proofs.Ytanhibhcmfmeeaa.Kv
