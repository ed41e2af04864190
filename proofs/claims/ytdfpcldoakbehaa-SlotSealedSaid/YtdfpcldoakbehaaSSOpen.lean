import Derived.Test.YtdfpcldoakbehaaSPut
/- The walks of seg.Open, Len, Get. -/
namespace Go.Proofs.Ytdfpcldoakbehaa.Slot
open Go.RowKit Go.Maps Go.Proofs.YtdfpcldoakbehaaW.PrintWords Go.Proofs.YtdfpcldoakbehaaW.PrintMore Go.Proofs.Ytdfpcldoakbehaa.Row Go.Proofs.Ytdfpcldoakbehaa.Cut Go.Proofs.Ytdfpcldoakbehaa.DiskM Go.Proofs.Ytdfpcldoakbehaa.Quor
open Go.Proofs.Ytdfpcldoakbehaa.Pack (append_u8 empty_row info5)
open Go.Proofs.Ytdfpcldoakbehaa.Crc (scanF scanGo openF openF_ok scan_calls ScanP KB scanF_more)
theorem scanGo_len : ∀ (k : Nat) (l : List Int) (p : Nat), (scanGo k l p).1.length + p ≤ (scanGo k l p).2
  | 0, l, p => by simp [scanGo]
  | k + 1, l, p => by
    unfold scanGo
    by_cases h : p < l.length
    · rw [if_pos h]
      by_cases h2 : (openF (l.drop p)).2.2 ≠ 0
      · rw [if_pos h2]; simp
      · rw [if_neg h2]
        have ho := openF_ok (l.drop p) (by simpa using h2)
        have ih := scanGo_len k l (p + (openF (l.drop p)).2.1.toNat)
        simp only [List.length_cons]
        omega
    · rw [if_neg h]; simp
theorem scan_len (l : List Int) : (scanF l).1.length ≤ (scanF l).2 := by
  have := scanGo_len (l.length + 1) l 0
  unfold scanF; omega
theorem row_of_own {w : World} {base n : Nat} {e : TypeId} {v : Value} {xs : List Value} (h : w.ownsRow base e 1 v n xs) : Row w base e v xs := by
  obtain ⟨hl, h⟩ := h
  rcases h with ⟨rfl, h0⟩ | ⟨g, cap, cur, rfl, hb, hc, h1, h2, h3, h4⟩
  · exact .inl ⟨rfl, List.length_eq_zero_iff.1 (by omega)⟩
  · exact .inr ⟨g, cap, cur, by rw [hl, Nat.mul_one], hb, hc, by omega, by omega, by rw [h3]; unfold maxLen at h2; omega, by rw [hl]; exact h4⟩
theorem ones_of_reps {w : World} {base : Nat} {ok : Nat → Prop} {xs : List (List Int)} {inner : List Value} (h : Reps (KB.M w base ok) 1 xs inner) : ∀ u ∈ inner, u.oneCell' = true := by
  intro u hu
  obtain ⟨j, hj, rfl⟩ := List.getElem_of_mem hu
  have hl : inner.length = xs.length := by have := h.1; omega
  have h2 := h.2 j _ (List.getElem?_eq_getElem (by omega))
  have h3 := KB.K_one (KB.K_of_M h2)
  refine h3 _ ?_
  have e : (inner.drop (j * 1)).take 1 = [inner[j]] := by rw [Nat.mul_one, List.drop_eq_getElem_cons hj]; rfl
  rw [e]
  exact List.mem_singleton.2 rfl
theorem _root_.Go.Proofs.Ytdfpcldoakbehaa.DiskM.Dk.keep {w0 w w' : World} {gd : Nat} {vd : Value} {room : Int} {bs : List Int} {safe : Nat} (D : Dk w0 w gd vd room bs safe) (hb : Below w0.heap.size w0 w') (hk : ∀ k, k = gd ∨ some k = vd.ownBlock → w'.heap[k]? = w.heap[k]?) : Dk w0 w' gd vd room bs safe :=
  ⟨hb, D.kg, (hk _ (.inl rfl)).trans D.blk, D.row.move fun k e => hk k (.inr e.symm), D.room1, D.fit, D.sf, D.byte⟩
theorem _root_.Go.Proofs.Ytdfpcldoakbehaa.DiskM.Dk.lt {w0 w : World} {gd : Nat} {vd : Value} {room : Int} {bs : List Int} {safe : Nat} (D : Dk w0 w gd vd room bs safe) {k : Nat} (hk : k = gd ∨ some k = vd.ownBlock) : k < w.heap.size := by
  rcases hk with rfl | e
  · exact (Array.getElem?_eq_some_iff.1 D.blk).1
  · exact (D.row.lt k e.symm).2.1
theorem _root_.Go.Proofs.Ytdfpcldoakbehaa.DiskM.Fr.after_set {w w4 w6 : World} {gd : Nat} {vd vd' : Value} (h : Fr w4 w6 gd vd vd') (hb : Below w.heap.size w w4) (_hn : ∀ k, w.heap.size ≤ k → k ≠ gd ∧ some k ≠ vd.ownBlock) : Fr w w6 gd vd vd' := h.after hb
theorem own_len (A : Option Addr) (n n' c : Nat) : (Value.slice A n c).ownBlock = (Value.slice A n' c).ownBlock := by cases A <;> rfl
def SOpenP (w0 w : World) (gd : Nat) (vd : Value) (room : Int) (bs : List Int) (e : Ending) (w' : World) : Prop :=
  ∃ sg A c vd', e = .returned (.pointer (some ⟨sg, 0, none⟩)) ∧ w.heap.size ≤ sg ∧ (scanF bs).1.length ≤ c ∧ KB.C w' A (scanF bs).1.length (scanF bs).1 ∧
    Sg w0 w' sg gd (.slice A (scanF bs).1.length c) vd' room (bs.take (scanF bs).2) (bs.take (scanF bs).2).length ∧ Fr w w' gd vd vd' ∧ ∀ k, (Value.slice A (scanF bs).1.length c).ownBlock = some k → w.heap.size ≤ k
set_option maxRecDepth 1000000 in
set_option maxHeartbeats 8000000 in
theorem sopen_calls {w0 w : World} {gd : Nat} {vd : Value} {room : Int} {bs : List Int} {safe : Nat} (D : Dk w0 w gd vd room bs safe) :
    Calls Try.prog 18 #[.pointer (some ⟨gd, 0, none⟩)] w (SOpenP w0 w gd vd room bs) := by
  have hm1 := meth_bytes
  have hm2 := meth_cut
  have hm3 := meth_sync
  have hbl : (bs.length : Int) ≤ 1048576 := by have := D.fit; have := D.room1; omega
  have hb1 := (Below.refl w.heap.size w).alloc (Nat.le_refl _) (.cells #[.iface 25 (.pointer (some ⟨gd, 0, none⟩)), .slice none 0 0, .int .i64 0] 75)
  have hk1 := heap_alloc_new w (.cells #[.iface 25 (.pointer (some ⟨gd, 0, none⟩)), .slice none 0 0, .int .i64 0] 75)
  have hbc := bytes_calls (D.step hb1)
  have HD := Lib.hid D; have HB1 := Lib.hid hb1; have HK1 := Lib.hid hk1
  obtain ⟨N, hN⟩ : ∃ N, N = bs.length := ⟨_, rfl⟩
  have HN := Lib.hid hN
  rw [← hN] at hbl hbc
  clear D hb1 hk1 hN
  go_enter Try.func18, Try.ntmps18
  go_wp2_with fail
  refine hbc.mono ?_
  rintro e w2 ⟨gb, rfl, hr2, hb2⟩
  have hs2 : w.heap.size + 1 ≤ w2.heap.size := by have := hb2.size; simpa using this
  obtain ⟨Ab, cb, hvb, _, hCb⟩ := hr2.reads
  injection hvb with hAb hq1 hq2
  subst hAb
  clear hq1 hq2
  have hk2 := (hb2.block _ (by simp)).trans HK1.out
  have HB2 := Lib.hid (below_step HB1.out hb2); have HK2 := Lib.hid hk2
  have hsc := scan_calls (some ⟨gb, 0, none⟩) N N bs w2 HN.out.symm (Nat.le_refl _) (by omega) (by rw [HN.out]; exact hCb) HD.out.byte
  clear hr2 hb2 hk2 hCb hbc
  go_wp2_with fail
  refine hsc.mono ?_
  rintro e w3 ⟨v3, rfl, hS3, hb3⟩
  obtain ⟨A3, c3, hv3, hc3, _⟩ := Kd.S_reads hS3
  obtain ⟨_, hend⟩ := (scanF_more bs []).2
  have hsl := scan_len bs
  have hF3 := Kd.S_F (by rw [hv3] at hS3; exact Kd.S_bound hS3)
  obtain ⟨_, inner, hown, hreps⟩ := Kd.S_R hS3
  have hone := ones_of_reps hreps
  have hinl : inner.length = (scanF bs).1.length := by have := hreps.1; simpa [KB, Kd.slice] using this
  have hown0 : ∀ k, v3.ownBlock = some k → w2.heap.size ≤ k := fun k hk => ((row_of_own hown).lt k hk).1
  have hrow3 := row_low (row_of_own hown) (show w0.heap.size ≤ w2.heap.size from Nat.le_trans HD.out.below.size HB2.out.size)
  subst hv3
  have hk3 := (hb3.block _ (by omega)).trans HK2.out
  have HB3 := Lib.hid (below_step HB2.out hb3)
  have D3 := HD.out.step HB3.out
  have hs3 : w2.heap.size ≤ w3.heap.size := hb3.size
  obtain ⟨rows, hrows⟩ : ∃ rows, rows = (scanF bs).1 := ⟨_, rfl⟩
  obtain ⟨en, hen⟩ : ∃ en, en = (scanF bs).2 := ⟨_, rfl⟩
  rw [← hrows] at hF3 hinl hrow3 hsl hc3 ⊢
  rw [← hen] at hend hsl ⊢
  obtain ⟨rn, hrn⟩ : ∃ rn, rn = rows.length := ⟨_, rfl⟩
  rw [← hrn] at hrow3 ⊢
  have g0 := (blk_cell hk3 0).trans rfl
  have g1 := (blk_cell hk3 1).trans rfl
  have g2 := (blk_cell hk3 2).trans rfl
  have gf1 := blk_frozen hk3 1
  have gf2 := blk_frozen hk3 2
  have hk4 := heap_setCell_same _ w.heap.size 2 _ 75 (.int .i64 ((N : Int) - (en : Int))) (heap_setCell_same w3 w.heap.size 1 _ 75 (.slice A3 rn c3) hk3)
  have hb4 : Below w.heap.size w ((w3.setCell ⟨w.heap.size, 1, none⟩ (.slice A3 rn c3)).setCell ⟨w.heap.size, 2, none⟩ (.int .i64 ((N : Int) - (en : Int)))) := below_set (below_set HB3.out (Nat.le_refl _)) (Nat.le_refl _)
  have hfar : ∀ k, k ≠ w.heap.size → ((w3.setCell ⟨w.heap.size, 1, none⟩ (.slice A3 rn c3)).setCell ⟨w.heap.size, 2, none⟩ (.int .i64 ((N : Int) - (en : Int)))).heap[k]? = w3.heap[k]? := fun k hk => (set_other _ hk).trans (set_other _ hk)
  have D4 := D3.keep (w' := (w3.setCell ⟨w.heap.size, 1, none⟩ (.slice A3 rn c3)).setCell ⟨w.heap.size, 2, none⟩ (.int .i64 ((N : Int) - (en : Int)))) (below_step HD.out.below hb4) (fun k hk => hfar k (by have := HD.out.lt hk; omega))
  have hen2 : en ≤ bs.length := hend
  have hct := cut_ok D4 en hen2
  have HX := Lib.hid (And.intro hk4 (And.intro hb4 (And.intro hfar (And.intro hF3 (And.intro hrow3 hone)))))
  have HL := Lib.hid (And.intro hsl (And.intro hinl (And.intro hrows (And.intro hen hrn))))
  have HN' := HN.out
  clear hsc hS3 hb3 hown hreps hone hinl hrow3 hk3 D3 hrows hen hrn hk4 hb4 hfar D4 hF3 hsl
  have hen3 : (en : Int) ≤ (N : Int) := by omega
  clear HN'
  go_wp2_with fail
  refine hct.mono ?_
  rintro e w5 ⟨rfl, vd5, D5, F5⟩
  have hne : ∀ k, w.heap.size ≤ k → k ≠ gd ∧ some k ≠ vd.ownBlock := fun k hk => ⟨fun e => by have := HD.out.lt (k := k) (.inl e); omega, fun e => by have := HD.out.lt (k := k) (.inr e); omega⟩
  have hlt4 := (Array.getElem?_eq_some_iff.1 HX.out.1).1
  have hk5 := (F5.2.1 _ hlt4 (hne _ (Nat.le_refl _)).1 (hne _ (Nat.le_refl _)).2).trans HX.out.1
  have k0 := (blk_cell hk5 0).trans rfl
  have hsy := sync_calls D5
  have HF5 := Lib.hid F5; have HK5 := Lib.hid hk5; have HNe := Lib.hid hne
  clear hct D5 F5 hk5 g0 g1 g2 gf1 gf2 hne
  go_wp2_with fail
  refine hsy.mono ?_
  rintro e w6 ⟨rfl, D6, F6⟩
  have hF46 := HF5.out.trans F6
  have hFr := hF46.after_set (w := w) HX.out.2.1 HNe.out
  have h36 : ∀ k, w.heap.size < k → k < w3.heap.size → w6.heap[k]? = w3.heap[k]? := fun k hk hlt =>
    (hF46.2.1 k (by simpa using hlt) (HNe.out k (by omega)).1 (HNe.out k (by omega)).2).trans (HX.out.2.2.1 k (by omega))
  have hk6 := (hF46.2.1 _ hlt4 (HNe.out _ (Nat.le_refl _)).1 (HNe.out _ (Nat.le_refl _)).2).trans HX.out.1
  have HFin := Lib.hid (And.intro D6 (And.intro hFr (And.intro h36 hk6)))
  clear hsy D6 F6 hF46 hFr h36 hk6 k0 hlt4
  go_wp2_with fail
  go_ret
  obtain ⟨hsl, hinl, hrows, hen, hrn⟩ := HL.out
  obtain ⟨_, _, _, hF3, hrow3, hone⟩ := HX.out
  obtain ⟨D6, hFr, h36, hk6⟩ := HFin.out
  have hlen : (bs.take en).length = en := by rw [List.length_take]; omega
  refine ⟨w.heap.size, A3, c3, vd5, rfl, Nat.le_refl _, by rw [← hrows]; exact hc3, ?_, ?_, hFr, fun k e => ?_⟩
  · rw [← hrows]
    exact hF3 w6 fun k hk hlt => h36 k (by have := hk.2.1; omega) hlt
  · rw [← hrows, ← hen, ← hrn]
    refine ⟨D6, HD.out.below.size, ⟨_, hk6⟩, ⟨inner, hrow3.move fun k e => ?_, by rw [hinl, hlen]; exact hsl, hone⟩⟩
    obtain ⟨_, hlt, _⟩ := hrow3.lt k e
    have hb : w2.heap.size ≤ k := hown0 k ((own_len A3 _ _ c3).trans e)
    exact h36 k (by omega) hlt
  · have hb : w2.heap.size ≤ k := hown0 k e
    omega
theorem at_row {w : World} {A : Option Addr} {n : Nat} {l : List (List Int)} (h : KB.C w A n l) (i : Nat) (hi : i < n) : ∃ ad x Ai ci, A = some ad ∧ l[i]? = some x ∧ w.cell? (ad.add i) = some (.slice Ai x.length ci) ∧ x.length ≤ ci ∧ (Kd.int .u8).C w Ai x.length x := by
  obtain ⟨hl, _, h⟩ := h
  obtain ⟨ad, hA, hc⟩ := h (by omega)
  have hil : i < l.length := by omega
  obtain ⟨cs, _, hk, hat⟩ := hc i (l[i]) (List.getElem?_eq_getElem hil)
  obtain ⟨Ai, ci, rfl, hle, hC⟩ := hk
  refine ⟨ad, l[i], Ai, ci, hA, List.getElem?_eq_getElem hil, ?_, hle, hC⟩
  have := hat 0 _ rfl
  have e1 : KB.sz = 1 := rfl
  rwa [e1, Nat.mul_one, Nat.add_zero] at this
theorem slen_calls {w : World} {sg : Nat} {X T : Value} {A : Option Addr} {n c : Nat} (h : w.heap[sg]? = some (.cells #[X, .slice A n c, T] 75 (0, 0))) :
    Calls Try.prog 19 #[.pointer (some ⟨sg, 0, none⟩)] w fun e w' => e = .returned (.int .i64 n) ∧ w = w' := by
  have c1 := (blk_cell h 1).trans rfl
  clear h
  go_enter Try.func19, Try.ntmps19
  go_wp2
  go_ret
  exact ⟨rfl, rfl⟩
set_option maxRecDepth 1000000 in
set_option maxHeartbeats 4000000 in
theorem sget_calls {w : World} {sg : Nat} {X T : Value} {A : Option Addr} {n c : Nat} {rows : List (List Int)} (h : w.heap[sg]? = some (.cells #[X, .slice A n c, T] 75 (0, 0))) (hK : KB.C w A n rows) (j : Nat) (hj : j < n) (x : List Int) (hx : rows[j]? = some x) (hxl : x.length ≤ 1048576) :
    Calls Try.prog 20 #[.pointer (some ⟨sg, 0, none⟩), .int .i64 j] w fun e w' => ∃ v, e = .returned (.tuple #[v, .int .i64 0]) ∧ Row w' w.heap.size 5 v (nums .u8 x) ∧ Below w.heap.size w w' := by
  have hlen := slen_calls h
  have hnm : n ≤ 9223372036854775807 := hK.2.1
  obtain ⟨ad, y, Ai, ci, rfl, hy, hc, _, hC⟩ := at_row hK j hj
  obtain rfl : x = y := by rw [hx] at hy; exact Option.some.inj hy
  have c1 := (blk_cell h 1).trans rfl
  have hb2 := ((Below.refl w.heap.size w).alloc (Nat.le_refl _) (.cells #[] 5))
  obtain ⟨A3, c3, w3, hrun, hrow, hgr, _⟩ := append_u8 (w.alloc (.cells #[] 5)) w.heap.size _ [] (empty_row w w.heap.size (Nat.le_refl _)) Ai ci x (Kd.C_below hC hb2) (by simp; omega) (by simp)
  simp only [List.length_nil, Nat.zero_add, List.nil_append] at hrun hrow hgr
  have hb3 : Below w.heap.size w w3 := hb2.grown hgr (by simp) (fun k hk => by
    have hk' : k = w.heap.size := by simpa [Value.ownBlock] using hk.symm
    omega)
  have d1 : (w.alloc (.cells #[] 5)).cell? ⟨sg, 1, none⟩ = some (.slice (some ad) n c) := (blk_cell ((hb2.block _ (Array.getElem?_eq_some_iff.1 h).1).trans h) 1).trans rfl
  have hlt : ad.block < w.heap.size := by have := World.block_lt_of_cell? w _ hc; rwa [Pack.blk_add] at this
  have dc : (w.alloc (.cells #[] 5)).cell? (ad.add j) = some (.slice Ai x.length ci) := (World.cell?_of_block (w := w) (by rw [Pack.blk_add]; exact hb2.block _ hlt)).trans hc
  have hji : (j : Int) < (n : Int) := by omega
  have hj0 : (0 : Int) ≤ (j : Int) := by omega
  have HR := Lib.hid hrun; have HF := Lib.hid (And.intro hrow hb3)
  obtain ⟨xl, hxl2⟩ : ∃ xl, xl = x.length := ⟨_, rfl⟩
  rw [← hxl2] at HR HF hc dc
  clear h hK hC hb2 hrun hrow hgr hb3 hx hy hxl2 hxl
  go_enter Try.func20, Try.ntmps20
  go_wp2_with fail
  refine hlen.mono ?_
  rintro e w1 ⟨rfl, rfl⟩
  clear hlen
  go_wp2_with (at_builtin; refine wpList_append_run rfl _ _ 23 rfl _ _ _ rfl rfl HR.out ?_)
  go_ret2
  exact ⟨_, rfl, HF.out⟩
end Go.Proofs.Ytdfpcldoakbehaa.Slot
