import Derived.Test.YtcjhllpbbbjaiaaWinList
/- Expire. -/
namespace Go.Proofs.Ytcjhllpbbbjaiaa.Win
open Go.RowKit Go.Maps Go.Proofs.YtcjhllpbbbjaiaaW.PrintWords Go.Proofs.YtcjhllpbbbjaiaaW.PrintMore Go.Proofs.Ytcjhllpbbbjaiaa.Cut
def endedB (size before : Int) (x : P2 × Int) : Bool := decide (x.1.1 + size ≤ before)
def goneT (size : Int) (x : P2 × Int) : T5 := (x.1.2, x.1.1, x.1.1 + size, 0, true)
def outT (size before : Int) (m : St) : List T5 := (m.takeWhile (endedB size before)).map (goneT size)
def restM (size before : Int) (m : St) : St := m.dropWhile (endedB size before)
theorem while_at {α : Type} {p : α → Bool} : ∀ {m : List α} {k : Nat}, (∀ x ∈ m.take k, p x = true) → (∀ x, m[k]? = some x → p x = false) → m.takeWhile p = m.take k ∧ m.dropWhile p = m.drop k
  | [], k, _, _ => by simp
  | y :: r, 0, _, h => by
    have := h y rfl
    simp [this]
  | y :: r, k + 1, h1, h2 => by
    have hy := h1 y (by simp)
    obtain ⟨e1, e2⟩ := while_at (m := r) (k := k) (fun x hx => h1 x (by simp [hx])) (fun x hx => h2 x (by simpa using hx))
    simp [hy, e1, e2]
theorem del_head {m : St} (hs : Sorted m) {k : Nat} {x : P2 × Int} (h : m[k]? = some x) : del x.1 (m.drop k) = m.drop (k + 1) := by
  obtain ⟨hl, rfl⟩ := List.getElem?_eq_some_iff.1 h
  have hd : m.drop k = m[k] :: m.drop (k + 1) := List.drop_eq_getElem_cons hl
  have hs2 : Sorted (m.drop k) := hs.sublist (List.drop_sublist _ _)
  rw [hd] at hs2 ⊢
  obtain ⟨h1, _⟩ := List.pairwise_cons.1 hs2
  unfold del
  rw [List.filter_cons_of_neg (by simp)]
  refine List.filter_eq_self.2 fun y hy => ?_
  have := h1 y hy
  simp only [ne_eq, decide_eq_true_eq]
  intro e
  rw [e] at this
  exact ltW_irr _ this
theorem take_snoc' {α : Type} {l : List α} {k : Nat} {x : α} (h : l[k]? = some x) : l.take (k + 1) = l.take k ++ [x] := by
  obtain ⟨hl, rfl⟩ := List.getElem?_eq_some_iff.1 h
  exact List.take_succ_eq_append_getElem hl
theorem R_grown_below {α : Type} {d : Kd α} {e base : Nat} {w w1 : World} {ok : Nat → Prop} {v : Value} {xs : List α} (h : d.R e w base ok v xs) {b : Nat} (hg : w.grownBy w1 (some b)) (hb : b < base) : d.R e w1 base ok v xs :=
  Kd.R_mono (Kd.R_move (Kd.R_bound h) (fun k hk => hg.block k hk.2.2.1 (fun e => by have := Option.some.inj e; have := hk.2.1; omega))) (fun _ hk => hk.1)
set_option maxRecDepth 100000 in
set_option maxHeartbeats 4000000 in
theorem expire_calls {w : World} {s : Nat} {room size : Int} {b : Nat} {m : St} (h : Own w s room size b m) (before : Int) :
    Calls Try.prog 14 #[.pointer (some ⟨s, 0, none⟩), .int .i64 before] w fun e w' => ∃ v, e = .returned v ∧ K5.R 30 w' w.heap.size (fun _ => True) v (outT size before m) ∧ Own w' s room size b (restM size before m) ∧ w.grownBy w' (some b) := by
  have hpl := places_calls h
  have hpos := mem_pos h.wf h.rng.2.2.1
  have HP := Lib.hid hpos
  have HS := Lib.hid h.sorted
  have HO := Lib.hid h
  have hb0 := h.lt.2.1
  have hml : m.length ≤ 1000000 := by have h1 := h.fits; have h2 := h.rng; omega
  have hpn : (places m).length = m.length := List.length_map _
  rw [hpn] at hpl
  have HN := Lib.hid hpn
  clear h hpos hpn
  obtain ⟨n, hn⟩ : ∃ n, n = m.length := ⟨_, rfl⟩
  rw [← hn] at hpl hml
  have HM := Lib.hid hn
  clear hn
  go_enter Try.func14, Try.ntmps14
  go_wp2_with (go_at_call 19; refine hpl.mono ?_; rintro e w1 ⟨v, rfl, hrow, hB⟩; obtain ⟨A, c, hv, hnc, _⟩ := Kd.R_reads (own_R2 (by rw [HN.out, ← HM.out]; exact hrow)); rw [HN.out, ← HM.out] at hv hnc; subst hv)
  have hO1 := HO.out.kept (row := none) ⟨hB.os, hB.tape, hB.output, hB.size, fun k hk _ => hB.block k hk⟩ (by simp) (by simp)
  have H1 := Lib.hid (And.intro hO1 (And.intro hrow hB))
  clear hpl hrow hB hO1 HO
  go_loopw [5, 12] (fun u3 i wx => ∃ k : Nat, k ≤ n ∧ i = .int .i64 k ∧ Own wx s room size b (m.drop k) ∧ wx.ownsRow w.heap.size 54 2 (.slice A n c) n ((places m).flatMap encP) ∧ K5.R 30 wx w.heap.size (fun _ => True) u3 ((m.take k).map (goneT size)) ∧ (∀ x ∈ m.take k, endedB size before x = true) ∧ w.grownBy wx (some b)) (fun _ i _ => n - (intOf i).toNat)
  case atStart => exact ⟨0, Nat.zero_le _, rfl, H1.out.1, H1.out.2.1, Kd.R_nil _ _ _ _ _, by simp, ⟨H1.out.2.2.os, H1.out.2.2.tape, H1.out.2.2.output, H1.out.2.2.size, fun k hk _ => H1.out.2.2.block k hk⟩⟩
  case round =>
    clear H1
    obtain ⟨k, hk, rfl, hO, hrow, hR, hE, hB⟩ := hrel
    by_cases hlt : k < n
    · have hlti : (k : Int) < (n : Int) := by omega
      have hk0 : (0 : Int) ≤ (k : Int) := by omega
      obtain ⟨A', c', hv', _, hC⟩ := Kd.R_reads (own_R2 (by rw [HN.out, ← HM.out]; exact hrow))
      rw [HN.out, ← HM.out] at hC hv'
      obtain ⟨rfl, rfl⟩ : A = A' ∧ c = c' := by injection hv' with h1 h2 h3; exact ⟨h1, h3⟩
      obtain ⟨ad, x, rfl, hx, d0, d1⟩ := at_C2 hC k hlt
      obtain ⟨val, hm⟩ := places_at hx
      obtain ⟨hwx, hp0, hp1⟩ := HP.out _ (List.mem_of_getElem? hm)
      obtain ⟨x1, x2⟩ := x
      simp only at d0 d1 hp0 hp1
      have HA := Lib.hid (And.intro hO (And.intro hrow (And.intro hR (And.intro hE hB))))
      have HMv := Lib.hid (And.intro hm hwx)
      have hch := change_calls (hO.kept (World.grownBy_alloc wr (.cells #[.int .i64 x1, .int .i64 x2] 54) none) (by simp) (by simp)) (x1, x2) ⟨hp0, hp1⟩
      simp only [chg] at hch
      clear hC hv' hx hm hO hrow hR hE hB hwx
      by_cases hbr : x1 + size ≤ before
      · have hbr1 : decide (before < x1 + size) = false := decide_eq_false (by omega)
        go_upto_region 7 with (go_at_call 18; refine hch.mono ?_; rintro e w2 ⟨rfl, hg2⟩)
        have hg3 : wr.grownBy (w2.alloc (.cells #[.int .i64 x2, .int .i64 x1, .int .i64 (x1 + size), .int .i64 0, .bool false] 30)) none := ((World.grownBy_alloc _ _ _).trans hg2).trans (World.grownBy_alloc _ _ _)
        have hz2 : wr.heap.size + 1 ≤ w2.heap.size := by have := hg2.size; simpa using this
        have b0 : w2.cell? ⟨wr.heap.size, 0, none⟩ = some (.int .i64 x1) := (World.cell?_of_block (hg2.block wr.heap.size (by simp) (by simp))).trans (by simp)
        have b1 : w2.cell? ⟨wr.heap.size, 1, none⟩ = some (.int .i64 x2) := (World.cell?_of_block (hg2.block wr.heap.size (by simp) (by simp))).trans (by simp)
        have q0 : (w2.alloc (.cells #[.int .i64 x2, .int .i64 x1, .int .i64 (x1 + size), .int .i64 0, .bool false] 30)).cell? ⟨wr.heap.size, 0, none⟩ = some (.int .i64 x1) := by rw [← b0]; exact World.cell?_of_block ((MapKept.heap_alloc _ _).2 _ (by simp only; omega))
        have q1 : (w2.alloc (.cells #[.int .i64 x2, .int .i64 x1, .int .i64 (x1 + size), .int .i64 0, .bool false] 30)).cell? ⟨wr.heap.size, 1, none⟩ = some (.int .i64 x2) := by rw [← b1]; exact World.cell?_of_block ((MapKept.heap_alloc _ _).2 _ (by simp only; omega))
        have hblk := (MapKept.heap_alloc w2 (.cells #[.int .i64 x2, .int .i64 x1, .int .i64 (x1 + size), .int .i64 0, .bool false] 30)).1
        clear hch hg2 b0 b1 d0 d1 hbr1
        generalize w2.alloc (.cells #[.int .i64 x2, .int .i64 x1, .int .i64 (x1 + size), .int .i64 0, .bool false] 30) = W3 at *
        generalize w2.heap.size = g at *
        clear w2
        have HO3 := HA.out.1.kept hg3 (by simp) (by simp)
        have hg3' := Lib.hid (grown_drew hg3)
        have hblk' : W3.drew.heap[g]? = some (.cells #[.int .i64 x2, .int .i64 x1, .int .i64 (x1 + size), .int .i64 0, .bool false] 30 (0, 0)) := hblk
        obtain ⟨c0, c1, c2⟩ := HO3.cells
        have HO4 : Own W3.drew s room size b (m.drop k) := HO3.drewN 1
        clear HO3 hg3 hblk
        refine wp_region_still_tail 5 (by kernel_rfl) (by kernel_rfl) ?_
        simp only [List.take_succ_cons, List.take_zero, List.drop_succ_cons, List.drop_zero]
        change wpStill _ _ W3.drew _ _ _
        repeat still_step
        refine wpStill_nil ?_
        change wpList _ _ _ _ _ W3.drew
        clear q0 q1 c0 c1 c2
        generalize W3.drew = W4 at *
        clear W3
        have hdel := fun ty => HO4.drop (p := (x1, x2)) HMv.out.2 ty
        simp only [val2, mkP] at hdel
        obtain ⟨W5, hrun, hO5, hgb, hzz⟩ := hdel 0
        rw [del_head HS.out HMv.out.1] at hO5
        have hb5 := (hgb.block g (Array.getElem?_eq_some_iff.1 hblk').1 (fun e => by have h1 := Option.some.inj e; have h2 := HA.out.2.2.2.2.size; omega)).trans hblk'
        have H5 := Lib.hid (And.intro hO5 ((hg3'.out.but (some b)).trans hgb))
        have z4 := (blk_cell hb5 4).trans rfl
        have y4 := blk_frozen hb5 4
        have HB5 := Lib.hid hb5
        have hnb := HO4.lt.2.1
        clear hdel hO5 hgb hzz hg3' HO4 hblk' hb5
        go_upto_region 9 with fail
        have hg6 := World.grownBy.set H5.out.2 (i := g) (by omega) 4 (.bool true)
        have hb6 := blk_put (cs' := #[.int .i64 x2, .int .i64 x1, .int .i64 (x1 + size), .int .i64 0, .bool true]) HB5.out 4 (.bool true) (by simp)
        have hgs : s ≠ g ∧ b ≠ g := by
          have h1 := HA.out.1.lt
          exact ⟨by omega, by omega⟩
        have hO6 := H5.out.1.setCell hgs.1 hgs.2 4 (.bool true)
        clear z4 y4 hrun hnb H5
        generalize W5.setCell ⟨g, 4, none⟩ (.bool true) = W6 at *
        have z0 := (blk_cell hb6 0).trans rfl
        have z1 := (blk_cell hb6 1).trans rfl
        have z2 := (blk_cell hb6 2).trans rfl
        have z3 := (blk_cell hb6 3).trans rfl
        have z4 := (blk_cell hb6 4).trans rfl
        have HO6 := Lib.hid hO6
        have HW6 := Lib.hid (row_grown HA.out.2.1 hg6 (.inr (HA.out.1.ne_row HA.out.2.1 (by decide)).2))
        have HR6 := Lib.hid (R_grown_below HA.out.2.2.1 hg6 hb0)
        have HG6 := Lib.hid (HA.out.2.2.2.2.trans (⟨hg6.os, hg6.tape, hg6.output, hg6.size, hg6.block⟩ : wr.grownBy W6 (some b)))
        have HE := Lib.hid HA.out.2.2.2.1
        have hl40 : (((m.take k).map (goneT size)).length + 1) * 40 ≤ 140737488355328 := by rw [List.length_map]; have := List.length_take_le k m; omega
        clear HA hg6 hb6 hO6 HB5 hgs W5
        go_wp2_with (first
          | ((with_reducible refine gate_builtin (b := .append) (xs := #[.tmp 29, .tmp 31]) rfl ?_); at_builtin; refine Kd.R_append K5 (w0 := W6) w.heap.size rfl (.tmp 29) (.tmp 31) 41 30 (.agg #[.int .i64 0, .int .i64 0, .int .i64 0, .int .i64 0, .bool false]) 40 rfl Try.underlying41 infoC rfl (by decide) (by decide) u5 ((m.take k).map (goneT size)) (x2, x1, x1 + size, 0, true) (encC (x2, x1, x1 + size, 0, true)) (fun _ => True) (fun _ => False) rfl rfl (K5_M _ _ _ _) (fun _ hk => hk.elim) (fun _ _ => trivial) HR6.out (Below.refl _ _) HG6.out.size hl40 ?_; intro v1 w6 hR7 hb7 hg7 hat7)
          | go_in)
        obtain ⟨inner, hin⟩ := Kd.R_own HR6.out
        have ne1 := HO6.out.ne_row hin (by decide)
        have hO7 := HO6.out.kept hg7 ne1.1 ne1.2
        have hW7 := row_grown HW6.out hg7 (rows_ne HW6.out hin (by decide))
        have hR8 : K5.R 30 w6 w.heap.size (fun _ => True) v1 ((m.take (k + 1)).map (goneT size)) := by rw [take_snoc' HMv.out.1, List.map_append]; exact hR7
        have hG8 : w.grownBy w6 (some b) := HG6.out.andThen hg7 (fun j hj => .inl (own_base hin j hj))
        have hE8 : ∀ x ∈ m.take (k + 1), endedB size before x = true := by
          intro x hx
          rw [take_snoc' HMv.out.1] at hx
          rcases List.mem_append.1 hx with hx | hx
          · exact HE.out x hx
          · obtain rfl : x = ((x1, x2), val) := by simpa using hx
            exact decide_eq_true hbr
        have HF := Lib.hid (And.intro hO7 (And.intro hW7 (And.intro hR8 (And.intro hE8 hG8))))
        clear hR7 hb7 hg7 hat7 hin ne1 hO7 hW7 hR8 hG8 hE8 HO6 HW6 HR6 HG6 HE
        go_wp2
        go_roundw
        case rel => exact ⟨k + 1, by omega, by go_num, HF.out.1, HF.out.2.1, HF.out.2.2.1, HF.out.2.2.2.1, HF.out.2.2.2.2⟩
        case measure => simp [intOf]; omega
      · have hbr1 : decide (before < x1 + size) = true := decide_eq_true (by omega)
        go_wp2_with (go_at_call 18; refine hch.mono ?_; rintro e w2 ⟨rfl, hg2⟩)
        go_ret
        obtain ⟨e1, e2⟩ := while_at (m := m) (k := k) HA.out.2.2.2.1 (fun x hx => by
          rw [HMv.out.1] at hx
          obtain rfl := Option.some.inj hx
          exact decide_eq_false (by simp only; omega))
        have hg3 : wr.grownBy (w2.alloc (.cells #[.int .i64 x2, .int .i64 x1, .int .i64 (x1 + size), .int .i64 0, .bool false] 30)) none := ((World.grownBy_alloc _ _ _).trans hg2).trans (World.grownBy_alloc _ _ _)
        refine ⟨u5, rfl, ?_, ?_, HA.out.2.2.2.2.trans (hg3.but _)⟩
        · unfold outT; rw [e1]; exact Kd.R_grown HA.out.2.2.1 hg3 (fun k _ => by simp)
        · unfold restM; rw [e2]; exact HA.out.1.kept hg3 (by simp) (by simp)
    · obtain rfl : k = n := by omega
      obtain ⟨e1, e2⟩ := while_at (m := m) (k := k) hE (fun x hx => by have := (List.getElem?_eq_some_iff.1 hx).1; rw [← HM.out] at this; omega)
      have HR := Lib.hid (And.intro (And.intro e1 e2) (And.intro hR (And.intro hO hB)))
      clear hO hrow hR hB hE e1 e2
      go_wp2
      go_ret
      refine ⟨u5, rfl, ?_, ?_, HR.out.2.2.2⟩
      · unfold outT; rw [HR.out.1.1]; exact HR.out.2.1
      · unfold restM; rw [HR.out.1.2]; exact HR.out.2.2.1
end Go.Proofs.Ytcjhllpbbbjaiaa.Win
