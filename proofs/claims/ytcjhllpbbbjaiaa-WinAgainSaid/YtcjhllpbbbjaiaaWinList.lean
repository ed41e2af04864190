import Derived.Test.YtcjhllpbbbjaiaaWinRow
/- List. -/
namespace Go.Proofs.Ytcjhllpbbbjaiaa.Win
open Go.RowKit Go.Maps Go.Proofs.YtcjhllpbbbjaiaaW.PrintWords Go.Proofs.YtcjhllpbbbjaiaaW.PrintMore Go.Proofs.Ytcjhllpbbbjaiaa.Cut
theorem Own.look1 {w : World} {s : Nat} {room size : Int} {b : Nat} {m : St} (h : Own w s room size b m) {p : P2} (hp : W2 p) :
    (Instr.lookup 50 (.map (some b)) (val2 p) false).run Try.prog w = .ok (.int .i64 ((look m p).getD 0)) w := by
  obtain ⟨D, hD, hA⟩ := h.map
  obtain ⟨c, hrun, hc, _⟩ := hD.lookup_int keyedP Try.underlying50 Try.underlying2 (by kernel_rfl) (keyOf_2 hp)
  rw [(hA.2.2 p hp).1] at hc
  have h2 : (look m p).getD 0 = c := by injection hc with h1; injection h1
  rw [h2]; exact hrun
def listT (size : Int) (m : St) : List T5 := m.map fun x => chgT size x false
theorem reps2 (w : World) (base : Nat) (ok : Nat → Prop) (l : List P2) : Reps (K2.M w base ok) 2 l (l.flatMap encP) :=
  ⟨fm_len l, fun j p h => by rw [fm_drop l j p h]; exact K2_M _ _ _ _⟩
theorem own_R2 {w : World} {base : Nat} {v : Value} {l : List P2} (h : w.ownsRow base 54 2 v l.length (l.flatMap encP)) : K2.R 54 w base (fun _ => True) v l :=
  ⟨fun _ _ => trivial, _, h, reps2 _ _ _ _⟩
theorem mem_pos {size : Int} {m : St} (h : ∀ x ∈ m, W2 x.1 ∧ W64 x.2 ∧ 0 ≤ x.1.1 ∧ startF size x.1.1 = x.1.1) (hs : 1 ≤ size) : ∀ x ∈ m, W2 x.1 ∧ 0 ≤ x.1.1 ∧ x.1.1 ≤ 1099511627776 := fun x hx => by
  obtain ⟨h1, _, h3, h4⟩ := h x hx
  exact ⟨h1, h3, by rw [← h4]; exact startF_le hs⟩
theorem look_at {m : St} (hs : Sorted m) {i : Nat} {x : P2 × Int} (h : m[i]? = some x) : look m x.1 = some x.2 := by
  induction m generalizing i with
  | nil => simp at h
  | cons y r ih =>
    obtain ⟨h1, h2⟩ := List.pairwise_cons.1 hs
    cases i with
    | zero =>
      obtain rfl : y = x := by simpa using h
      rw [look, if_pos rfl]
    | succ i =>
      have hx : r[i]? = some x := by simpa using h
      have hm := List.mem_of_getElem? hx
      rw [look, if_neg (fun e => by have := h1 x hm; rw [e] at this; exact ltW_irr _ this)]
      exact ih h2 hx
theorem places_at {m : St} {i : Nat} {p : P2} (h : (places m)[i]? = some p) : ∃ v, m[i]? = some (p, v) := by
  unfold places at h
  rw [List.getElem?_map] at h
  obtain ⟨q, hq, rfl⟩ := Option.map_eq_some_iff.1 h
  exact ⟨q.2, hq⟩
theorem listT_snoc {size : Int} {m : St} {k : Nat} {x : P2 × Int} (h : m[k]? = some x) : (listT size m).take (k + 1) = (listT size m).take k ++ [chgT size x false] := by
  unfold listT
  obtain ⟨hl, rfl⟩ := List.getElem?_eq_some_iff.1 h
  rw [List.take_succ_eq_append_getElem (by simpa using hl)]
  simp
set_option maxRecDepth 100000 in
set_option maxHeartbeats 4000000 in
theorem list_calls {w : World} {s : Nat} {room size : Int} {b : Nat} {m : St} (h : Own w s room size b m) :
    Calls Try.prog 13 #[.pointer (some ⟨s, 0, none⟩)] w fun e w' => ∃ v, e = .returned v ∧ K5.R 30 w' w.heap.size (fun _ => True) v (listT size m) ∧ Below w.heap.size w w' := by
  have hpl := places_calls h
  have hpos := mem_pos h.wf h.rng.2.2.1
  have HP := Lib.hid hpos
  have HS := Lib.hid h.sorted
  have HO := Lib.hid h
  have hml : m.length ≤ 1000000 := by have h1 := h.fits; have h2 := h.rng; omega
  have hpn : (places m).length = m.length := List.length_map _
  rw [hpn] at hpl
  have HN := Lib.hid hpn
  clear h hpos hpn
  obtain ⟨n, hn⟩ : ∃ n, n = m.length := ⟨_, rfl⟩
  rw [← hn] at hpl hml
  have HM := Lib.hid hn
  clear hn
  go_enter Try.func13, Try.ntmps13
  go_wp2_with (go_at_call 19; refine hpl.mono ?_; rintro e w1 ⟨v, rfl, hrow, hB⟩; obtain ⟨A, c, hv, hnc, _⟩ := Kd.R_reads (own_R2 (by rw [HN.out, ← HM.out]; exact hrow)); rw [HN.out, ← HM.out] at hv hnc; subst hv)
  have hO1 := HO.out.kept (row := none) ⟨hB.os, hB.tape, hB.output, hB.size, fun k hk _ => hB.block k hk⟩ (by simp) (by simp)
  have H1 := Lib.hid (And.intro hO1 (And.intro hrow hB))
  clear hpl hrow hB hO1 HO
  go_loopw [3, 10] (fun u3 i wx => ∃ k : Nat, k ≤ n ∧ i = .int .i64 k ∧ Own wx s room size b m ∧ wx.ownsRow w.heap.size 54 2 (.slice A n c) n ((places m).flatMap encP) ∧ K5.R 30 wx w.heap.size (fun _ => True) u3 ((listT size m).take k) ∧ Below w.heap.size w wx) (fun _ i _ => n - (intOf i).toNat)
  case atStart => exact ⟨0, Nat.zero_le _, rfl, H1.out.1, H1.out.2.1, Kd.R_nil _ _ _ _ _, H1.out.2.2⟩
  case round =>
    clear H1
    obtain ⟨k, hk, rfl, hO, hrow, hR, hB⟩ := hrel
    by_cases hlt : k < n
    · have hlti : (k : Int) < (n : Int) := by omega
      have hk0 : (0 : Int) ≤ (k : Int) := by omega
      obtain ⟨A', c', hv', _, hC⟩ := Kd.R_reads (own_R2 (by rw [HN.out, ← HM.out]; exact hrow))
      rw [HN.out, ← HM.out] at hC hv'
      obtain ⟨rfl, rfl⟩ : A = A' ∧ c = c' := by injection hv' with h1 h2 h3; exact ⟨h1, h3⟩
      obtain ⟨ad, x, rfl, hx, d0, d1⟩ := at_C2 hC k hlt
      obtain ⟨val, hm⟩ := places_at hx
      obtain ⟨hwx, hp0, hp1⟩ := HP.out _ (List.mem_of_getElem? hm)
      obtain ⟨x1, x2⟩ := x
      simp only at d0 d1 hp0 hp1
      have HA := Lib.hid (And.intro hO (And.intro hrow (And.intro hR hB)))
      have HMv := Lib.hid (And.intro hm hwx)
      have hch := change_calls (hO.kept (World.grownBy_alloc wr (.cells #[.int .i64 x1, .int .i64 x2] 54) none) (by simp) (by simp)) (x1, x2) ⟨hp0, hp1⟩
      simp only [chg] at hch
      clear hC hv' hx hm hO hrow hR hB hwx
      go_upto_region 6 with (go_at_call 18; refine hch.mono ?_; rintro e w2 ⟨rfl, hg2⟩)
      have hg3 : wr.grownBy (w2.alloc (.cells #[.int .i64 x2, .int .i64 x1, .int .i64 (x1 + size), .int .i64 0, .bool false] 30)) none := ((World.grownBy_alloc _ _ _).trans hg2).trans (World.grownBy_alloc _ _ _)
      have hz2 : wr.heap.size + 1 ≤ w2.heap.size := by have := hg2.size; simpa using this
      have b0 : w2.cell? ⟨wr.heap.size, 0, none⟩ = some (.int .i64 x1) := (World.cell?_of_block (hg2.block wr.heap.size (by simp) (by simp))).trans (by simp)
      have b1 : w2.cell? ⟨wr.heap.size, 1, none⟩ = some (.int .i64 x2) := (World.cell?_of_block (hg2.block wr.heap.size (by simp) (by simp))).trans (by simp)
      have q0 : (w2.alloc (.cells #[.int .i64 x2, .int .i64 x1, .int .i64 (x1 + size), .int .i64 0, .bool false] 30)).cell? ⟨wr.heap.size, 0, none⟩ = some (.int .i64 x1) := by rw [← b0]; exact World.cell?_of_block ((MapKept.heap_alloc _ _).2 _ (by simp only; omega))
      have q1 : (w2.alloc (.cells #[.int .i64 x2, .int .i64 x1, .int .i64 (x1 + size), .int .i64 0, .bool false] 30)).cell? ⟨wr.heap.size, 1, none⟩ = some (.int .i64 x2) := by rw [← b1]; exact World.cell?_of_block ((MapKept.heap_alloc _ _).2 _ (by simp only; omega))
      have hblk := (MapKept.heap_alloc w2 (.cells #[.int .i64 x2, .int .i64 x1, .int .i64 (x1 + size), .int .i64 0, .bool false] 30)).1
      clear hch hg2 b0 b1 d0 d1
      generalize w2.alloc (.cells #[.int .i64 x2, .int .i64 x1, .int .i64 (x1 + size), .int .i64 0, .bool false] 30) = W3 at *
      generalize w2.heap.size = g at *
      clear w2
      have HO3 := HA.out.1.kept hg3 (by simp) (by simp)
      obtain ⟨c0, c1, c2⟩ := HO3.cells
      have hlk : ∀ n, (Instr.lookup 50 (.map (some b)) (val2 (x1, x2)) false).run Try.prog (W3.drewN n) = .ok (.int .i64 val) (W3.drewN n) := fun n => by
        have h1 := (HO3.drewN n).look1 HMv.out.2
        rw [look_at HS.out HMv.out.1] at h1
        exact h1
      simp only [val2, mkP] at hlk
      have hlk1 : (Instr.lookup 50 (.map (some b)) (.agg #[.int .i64 x1, .int .i64 x2]) false).run Try.prog W3.drew = .ok (.int .i64 val) W3.drew := hlk 1
      have z3 : W3.cell? ⟨g, 3, none⟩ = some (.int .i64 0) := (blk_cell hblk 3).trans rfl
      have y3 := blk_frozen hblk 3
      clear hlk HO3
      refine wp_region_still_tail 7 (by kernel_rfl) (by kernel_rfl) ?_
      simp only [List.take_succ_cons, List.take_zero, List.drop_succ_cons, List.drop_zero]
      change wpStill _ _ W3.drew _ _ _
      repeat still_step
      refine wpStill_nil ?_
      change wpList _ _ _ _ _ W3.drew
      clear hlk1
      have hg4 : wr.grownBy W3.drew none := grown_drew hg3
      have hb4 : W3.drew.heap[g]? = some (.cells #[.int .i64 x2, .int .i64 x1, .int .i64 (x1 + size), .int .i64 0, .bool false] 30 (0, 0)) := hblk
      have z3' : W3.drew.cell? ⟨g, 3, none⟩ = some (.int .i64 0) := z3
      have y3' : W3.drew.frozen? ⟨g, 3, none⟩ = false := y3
      clear hg3 hblk z3 y3 q0 q1 c0 c1 c2
      generalize W3.drew = W4 at *
      go_upto_region 7 with fail
      have hg5 := World.grownBy.set hg4 (i := g) (by omega) 3 (.int .i64 val)
      have hb5 := blk_put (cs' := #[.int .i64 x2, .int .i64 x1, .int .i64 (x1 + size), .int .i64 val, .bool false]) hb4 3 (.int .i64 val) (by simp)
      clear z3' y3' hg4 hb4
      generalize W4.setCell ⟨g, 3, none⟩ (.int .i64 val) = W5 at *
      have z0 := (blk_cell hb5 0).trans rfl
      have z1 := (blk_cell hb5 1).trans rfl
      have z2 := (blk_cell hb5 2).trans rfl
      have z3 := (blk_cell hb5 3).trans rfl
      have z4 := (blk_cell hb5 4).trans rfl
      have HO5 := Lib.hid (HA.out.1.kept hg5 (by simp) (by simp))
      have HW5 := Lib.hid (row_grown HA.out.2.1 hg5 (.inl rfl))
      have HR5 := Lib.hid (Kd.R_grown HA.out.2.2.1 hg5 (fun k _ => by simp))
      have HB5 := Lib.hid (HA.out.2.2.2.grown hg5 HA.out.2.2.2.size (fun j hj => by cases hj))
      have hl40 : (((listT size m).take k).length + 1) * 40 ≤ 140737488355328 := by have := List.length_take_le k (listT size m); omega
      clear HA hg5 hb5 W3
      go_wp2_with (first
        | ((with_reducible refine gate_builtin (b := .append) (xs := #[.tmp 24, .tmp 26]) rfl ?_); at_builtin; refine Kd.R_append K5 (w0 := w) w.heap.size rfl (.tmp 24) (.tmp 26) 41 30 (.agg #[.int .i64 0, .int .i64 0, .int .i64 0, .int .i64 0, .bool false]) 40 rfl Try.underlying41 infoC rfl (by decide) (by decide) u3 ((listT size m).take k) (x2, x1, x1 + size, val, false) (encC (x2, x1, x1 + size, val, false)) (fun _ => True) (fun _ => False) rfl rfl (K5_M _ _ _ _) (fun _ hk => hk.elim) (fun _ _ => trivial) HR5.out HB5.out HB5.out.size hl40 ?_; intro v1 w6 hR6 hb6 hg6 hat6)
        | go_in)
      obtain ⟨inner, hin⟩ := Kd.R_own HR5.out
      have ne1 := HO5.out.ne_row hin (by decide)
      have hO6 := HO5.out.kept hg6 ne1.1 ne1.2
      have hW6 := row_grown HW5.out hg6 (rows_ne HW5.out hin (by decide))
      have hR7 : K5.R 30 w6 w.heap.size (fun _ => True) v1 ((listT size m).take (k + 1)) := by rw [listT_snoc HMv.out.1]; exact hR6
      have HF := Lib.hid (And.intro hO6 (And.intro hW6 (And.intro hR7 hb6)))
      clear hR6 hb6 hg6 hat6 hin ne1 hO6 hW6 hR7 HO5 HW5 HR5 HB5
      go_wp2
      go_roundw
      case rel => exact ⟨k + 1, by omega, by go_num, HF.out.1, HF.out.2.1, HF.out.2.2.1, HF.out.2.2.2⟩
      case measure => simp [intOf]; omega
    · obtain rfl : k = n := by omega
      rw [List.take_of_length_le (by unfold listT; rw [List.length_map, HM.out]; exact Nat.le_refl _)] at hR
      have HR := Lib.hid (And.intro hR hB)
      clear hO hrow hR hB
      go_wp2
      go_ret
      exact ⟨u3, rfl, HR.out.1, HR.out.2⟩
end Go.Proofs.Ytcjhllpbbbjaiaa.Win
