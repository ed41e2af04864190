import Derived.Test.YtmphlgihmggoaaaDiskS
import Derived.Deep.RegionWith
/- The walk of DiskOwn. -/
namespace Go.Proofs.Ytmphlgihmggoaaa.DiskM
open Go.RowKit Go.Proofs.YtmphlgihmggoaaaW.PrintWords Go.Proofs.YtmphlgihmggoaaaW.PrintLast Go.Proofs.YtmphlgihmggoaaaW.PrintMore Go.Proofs.Ytmphlgihmggoaaa.Row Go.Proofs.Ytmphlgihmggoaaa.Cut

theorem Dk.far {w0 w : World} {g : Nat} {v : Value} {room : Int} {bs : List Int} {safe : Nat} (D : Dk w0 w g v room bs safe) (k j : Nat) (u : Value) (hk : w0.heap.size ≤ k) (hg : k ≠ g) (hv : some k ≠ v.ownBlock) : Dk w0 (w.setCell ⟨k, j, none⟩ u) g v room bs safe :=
  ⟨below_set D.below hk, D.kg, (set_other _ (Ne.symm hg)).trans D.blk, D.row.move fun q hq => set_other _ (fun e => hv (by rw [← e]; exact hq.symm)), D.room1, D.fit, D.sf, D.byte⟩
theorem Dk.grown {w0 w w1 : World} {g : Nat} {v : Value} {room : Int} {bs : List Int} {safe : Nat} (D : Dk w0 w g v room bs safe) {row : Option Nat} (hgr : w.grownBy w1 row) (hr : ∀ k, row = some k → w0.heap.size ≤ k ∧ k ≠ g ∧ some k ≠ v.ownBlock) : Dk w0 w1 g v room bs safe :=
  ⟨D.below.grown hgr D.below.size (fun k hk => (hr k hk).1), D.kg, (hgr.block g (Array.getElem?_eq_some_iff.1 D.blk).1 (fun e => (hr g e.symm).2.1 rfl)).trans D.blk, D.row.move fun q hq => hgr.block q (D.row.lt q hq).2.1 (fun e => (hr q e.symm).2.2 hq.symm), D.room1, D.fit, D.sf, D.byte⟩
theorem Dk.lt {w0 w : World} {g : Nat} {v : Value} {room : Int} {bs : List Int} {safe : Nat} (D : Dk w0 w g v room bs safe) : g < w.heap.size := (Array.getElem?_eq_some_iff.1 D.blk).1
/-- Any slice that is read, appended to an own row. -/
theorem news_of {w : World} {A : Option Addr} {l : List Int} (hK : (Kd.int .u8).C w A l.length l) : 0 < (nums .u8 l).length → ∃ a, A = some a ∧ ∀ j u, (nums .u8 l)[j]? = some u → w.cell? (a.add j) = some u := fun h0 => by
  rw [nums_length] at h0
  obtain ⟨_, _, h⟩ := hK
  obtain ⟨a, ha, hc⟩ := h h0
  refine ⟨a, ha, fun j u hu => ?_⟩
  simp only [nums, List.getElem?_map, Option.map_eq_some_iff] at hu
  obtain ⟨p, hp, rfl⟩ := hu
  obtain ⟨cs, _, hcs, hat⟩ := hc j p hp
  obtain rfl : cs = [.int .u8 p] := hcs
  have := hat 0 _ rfl
  have e1 : (Kd.int .u8).sz = 1 := rfl
  rwa [e1, Nat.mul_one, Nat.add_zero] at this
theorem append_u8 (w : World) (base : Nat) (v : Value) (bs : List Int) (hown : Row w base 5 v (nums .u8 bs)) (A : Option Addr) (c : Nat) (l : List Int) (hK : (Kd.int .u8).C w A l.length l) (hlim : bs.length + l.length ≤ 140737488355328) (hbase : base ≤ w.heap.size) :
    ∃ A' c' w', (Builtin.append_ #[22, 22] 22 #[v, .slice A l.length c]).run Try.prog w = .ok (.slice A' (bs.length + l.length) c') w' ∧ Row w' base 5 (.slice A' (bs.length + l.length) c') (nums .u8 (bs ++ l)) ∧ w.grownBy w' v.ownBlock ∧ ((Value.slice A' (bs.length + l.length) c').ownBlock = v.ownBlock ∨ ∃ b, (Value.slice A' (bs.length + l.length) c').ownBlock = some b ∧ w.heap.size ≤ b) := by
  obtain ⟨i5, hi5, hz5, hs5, hb5⟩ := info_parts info5
  obtain ⟨v', w', hr, hrow, hgr, hat⟩ := run_append (P := Try.prog) w base 22 22 5 i5 (.int .u8 0) 1 Try.underlying22 hi5 hz5 hs5 hb5 rfl v (nums .u8 bs) hown A c (nums .u8 l) (news_of hK) (fun u hu => by
    simp only [nums, List.mem_map] at hu
    obtain ⟨x, _, rfl⟩ := hu; rfl) (by rw [nums_length, nums_length]; exact hlim) (by rw [nums_length, nums_length, Nat.mul_one]; exact hlim) hbase
  rw [← nums_append] at hrow
  obtain ⟨A', c', hv, _, _⟩ := hrow.slice
  rw [nums_length, List.length_append] at hv
  subst hv
  rw [nums_length] at hr
  exact ⟨A', c', w', hr, hrow, hgr, hat⟩
theorem empty_row (w : World) (base : Nat) (hb : base ≤ w.heap.size) : Row (w.alloc (.cells #[] 5)) base 5 (.slice (some ⟨w.heap.size, 0, none⟩) 0 0) [] :=
  .inr ⟨w.heap.size, 0, #[], rfl, hb, heap_alloc_new w _, Nat.le_refl _, Nat.le_refl _, by simp, rfl⟩

set_option maxHeartbeats 8000000 in
theorem own_walk (A : Option Addr) (c : Nat) (b : List Int) (turn : Int) (w : World) (hK : (Kd.int .u8).C w A b.length b) (hby : ∀ x ∈ b, 0 ≤ x ∧ x ≤ 255) (ht0 : 0 ≤ turn) (ht1 : turn ≤ 255) :
    Calls Try.prog 7 #[.slice A b.length c, .int .u8 turn] w fun e w' => e = .returned (.bool true) ∧ Below w.heap.size w w' := by
  have HK := Lib.hid hK
  have hbl : b.length ≤ 9223372036854775807 := hK.2.1
  clear hK
  go_enter Try.func7, Try.ntmps7
  go_wp2_with fail
  refine (shown_calls w).mono ?_
  rintro e w1 ⟨rfl, B1⟩
  go_wp2_with fail
  refine (new_ok (w0 := w) 1000 B1 (by omega) (by omega)).mono ?_
  rintro e w2 ⟨rfl, D2, B2⟩
  have hgw : w.heap.size ≤ w1.heap.size := B1.size
  generalize w1.heap.size = g at D2 hgw
  have B02 := below_step B1 B2
  by_cases h0 : b.length = 0
  · have h0' : (b.length == 0) = true := by simp [h0]
    go_wp2
    go_ret
    exact ⟨rfl, B02⟩
  · by_cases h1 : 1000 < b.length
    · have h0' : (b.length == 0) = false := by simp; intro h; exact h0 (by simp [h])
      go_wp2
      go_ret
      exact ⟨rfl, B02⟩
    · have h0' : (b.length == 0) = false := by simp; intro h; exact h0 (by simp [h])
      have h0i : ((b.length : Int) == 0) = false := beq_eq_false_iff_ne.2 (by omega)
      have h1i : (b.length : Int) ≤ 1000 := by omega
      have B2a := B02.alloc B02.size (.cells #[] 5)
      obtain ⟨A3, c3, w3, hr3, R3, G3, at3⟩ := append_u8 (w2.alloc (.cells #[] 5)) w.heap.size _ [] (empty_row w2 w.heap.size B02.size) A c b (Kd.C_below HK.out B2a) (by simp; omega) (by have := B02.size; simp; omega)
      simp only [List.length_nil, Nat.zero_add, List.nil_append] at hr3 R3 at3
      have HR3 := Lib.hid hr3
      have D3 : Dk w w3 g (.slice none 0 0) 1000 [] 0 := (D2.step ((Below.refl w2.heap.size w2).alloc (Nat.le_refl _) (.cells #[] 5))).grown G3 (fun k hk => by
        have hk' : k = w2.heap.size := by simpa [Value.ownBlock] using hk.symm
        have := D2.lt; have := B02.size
        exact ⟨by omega, by omega, by simp [Value.ownBlock]⟩)
      obtain ⟨ga, hA3, ha, _⟩ := R3.cellAt rfl 0 (.int .u8 (b.getD 0 0)) (by simp [nums, List.getD_eq_getElem?_getD, List.getElem?_eq_getElem (show 0 < b.length by omega)])
      subst hA3
      have hga : w2.heap.size ≤ ga := by
        rcases at3 with h | ⟨q, h, hq⟩
        · have : ga = w2.heap.size := by simpa [Value.ownBlock] using h
          omega
        · have : ga = q := by simpa [Value.ownBlock] using h
          simp at hq; omega
      have hga3 : ga < w3.heap.size := (R3.lt ga rfl).2.1
      have hgga : ga ≠ g := by have := D2.lt; omega
      clear hr3 D2 ha at3 G3 B2a
      go_wp2_with (at_builtin; refine wpList_append_run rfl _ _ 22 rfl _ _ _ rfl rfl HR3.out ?_)
      obtain ⟨A3', c3', hv3, hc3, hC3⟩ := R3.reads
      have hv3' : A3' = some ⟨ga, 0, none⟩ ∧ c3' = c3 := by injection hv3 with e1 _ e3; exact ⟨e1.symm, e3.symm⟩
      obtain ⟨rfl, rfl⟩ := hv3'
      refine (append_ok D3 _ _ b hC3 hby (by simp; omega)).mono ?_
      rintro e w4 ⟨rfl, v4, D4, F4⟩
      rw [List.nil_append] at D4
      have hv4 : some ga ≠ v4.ownBlock := by
        rcases F4.2.2 with h | h | ⟨q, h, hq⟩
        · rw [h]; simp
        · rw [h]; simp [Value.ownBlock]
        · rw [h]; intro e; injection e with e; omega
      have R4 : Row w4 w.heap.size 5 (.slice (some ⟨ga, 0, none⟩) b.length c3') (nums .u8 b) := R3.move fun k hk => by
        obtain rfl : ga = k := by simpa [Value.ownBlock] using hk
        exact F4.2.1 ga hga3 hgga (by simp [Value.ownBlock])
      clear R3 hC3 D3 F4 hv3
      have HD4 := Lib.hid D4; have HR4 := Lib.hid R4; clear D4 R4
      obtain ⟨i, hi⟩ : ∃ i, i = turn % (b.length : Int) := ⟨_, rfl⟩
      have hi0 : 0 ≤ i := by rw [hi]; exact Int.emod_nonneg _ (by omega)
      have hi1 : i < (b.length : Int) := by rw [hi]; exact Int.emod_lt_of_pos _ (by omega)
      have HI := Lib.hid hi
      clear hi
      go_upto_region 8 with fail
      rw [← HI.out]
      obtain ⟨n, rfl⟩ := Int.eq_ofNat_of_zero_le hi0
      have hnb : n < b.length := by omega
      obtain ⟨x, hx⟩ : ∃ x, b[n]? = some x := ⟨_, List.getElem?_eq_getElem hnb⟩
      obtain ⟨ga', hga', ca, fa⟩ := HR4.out.cellAt rfl n (.int .u8 x) (by simp [nums, hx])
      have : ga' = ga := by injection hga' with e; injection e with e; exact e.symm
      subst this
      clear hga'
      have D5 := fun u => HD4.out.far ga' n u (by have := B02.size; omega) hgga hv4
      have HD5 := Lib.hid D5
      clear D5
      go_wp2_with fail
      refine (bytes_calls (HD5.out _)).mono ?_
      rintro e w6 ⟨gb, rfl, R6, B6⟩
      have D6 := (HD5.out _).step B6
      have cs1 := row_str R6
      have cs2 : (convert 22 9 (.slice A b.length c)).run Try.prog w6 = .ok (.string (strOfNums b)) w6 := Kd.C_string Try.underlying22 Try.underlying5 Try.underlying9 (Kd.C_below HK.out D6.below)
      obtain ⟨gb', hgb', cb, fb⟩ := R6.cellAt rfl n (.int .u8 x) (by simp [nums, hx])
      have : gb' = gb := by injection hgb' with e; injection e with e; exact e.symm
      subst this
      clear hgb'
      have hgb1 := (R6.lt gb' rfl).1
      obtain ⟨S, hS⟩ : ∃ S, S = strOfNums b := ⟨_, rfl⟩
      rw [← hS] at cs1 cs2
      have hlt4 := (HD5.out (.int .u8 0)).lt
      have D7 := fun u => D6.far gb' n u (by have := (HD5.out (.int .u8 0)).below.size; simp at hgb1 this ⊢; omega) (by simp at hgb1 hlt4; omega) (by
        intro e
        have := (HD4.out.row.lt gb' e.symm).2.1
        simp at hgb1; omega)
      have HD7 := Lib.hid D7; have HR6 := Lib.hid R6; have HS := Lib.hid hS
      clear D6 D7 R6 B6 hS hx
      go_wp2_with fail
      refine (lose_calls (HD7.out _)).mono ?_
      rintro e w8 ⟨rfl, v8, D8, _⟩
      have HD8 := Lib.hid D8
      clear D8 cs1 cs2
      go_wp2_with fail
      have D8a := HD8.out.step (w' := w8.drew) (Below.refl _ _).drew
      have HD8a := Lib.hid D8a
      clear D8a
      go_region_with (first
        | (go_at_call 11; refine (append_ok HD8a.out A c b (Kd.C_below HK.out HD8a.out.below) hby (by simp; omega)).mono ?_; rintro e w9 ⟨rfl, v9, D9, _⟩; rw [List.nil_append] at D9; have cs9 : (convert 22 9 (.slice A b.length c)).run Try.prog w9 = .ok (.string S) w9 := (Kd.C_string Try.underlying22 Try.underlying5 Try.underlying9 (Kd.C_below HK.out D9.below)).trans (by rw [HS.out]); have HD9 := Lib.hid D9; clear D9)
        | (go_at_call 14; refine (bytes_calls HD9.out).mono ?_; rintro e w10 ⟨gc, rfl, R10, B10⟩; have cs10 := row_str R10; have cs11 : (convert 22 9 (.slice A b.length c)).run Try.prog w10 = .ok (.string S) w10 := (Kd.C_string Try.underlying22 Try.underlying5 Try.underlying9 (Kd.C_below HK.out (below_step HD9.out.below B10))).trans (by rw [HS.out]); rw [← HS.out] at cs10; have HB10 := Lib.hid B10; clear R10 B10))
      all_goals
        go_wp2
        go_ret
        exact ⟨rfl, below_step HD9.out.below HB10.out⟩
end Go.Proofs.Ytmphlgihmggoaaa.DiskM
