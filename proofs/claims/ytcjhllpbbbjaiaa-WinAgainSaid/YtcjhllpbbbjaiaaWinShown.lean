import Derived.Test.YtcjhllpbbbjaiaaWinCh
/- The document's example. -/
namespace Go.Proofs.Ytcjhllpbbbjaiaa.Win
open Go.RowKit Go.Maps Go.Proofs.YtcjhllpbbbjaiaaW.PrintWords Go.Proofs.YtcjhllpbbbjaiaaW.PrintMore Go.Proofs.Ytcjhllpbbbjaiaa.Cut Go.Proofs.Ytcjhllpbbbjaiaa.PWinAgain
attribute [local go_sem high] eqA30
theorem reps5_one (w : World) (base : Nat) (ok : Nat → Prop) (x : T5) : Reps (K5.M w base ok) 5 [x] (encC x) :=
  ⟨rfl, fun j p h => by
    cases j with
    | zero =>
      obtain rfl : x = p := by simpa using h
      exact K5_M _ _ _ _
    | succ j => simp at h⟩
theorem row1_C {W : World} {g : Nat} {x : T5} (h : W.heap[g]? = some (.cells (encC x).toArray 30 (0, 0))) : K5.C W (some ⟨g, 0, none⟩) 1 [x] := by
  have hR : K5.R 30 W 0 (fun _ => True) (.slice (some ⟨g, 0, none⟩) 1 1) [x] :=
    ⟨fun _ _ => trivial, encC x, ⟨rfl, .inr ⟨g, 1, (encC x).toArray, rfl, Nat.zero_le _, h, Nat.le_refl _, by decide, rfl, rfl⟩⟩, reps5_one _ _ _ _⟩
  obtain ⟨A, c, e, _, hC⟩ := Kd.R_reads hR
  injection e with e1 e2 e3
  subst e1
  exact hC
theorem below_of_grown {w w' : World} (h : w.grownBy w' none) : Below w.heap.size w w' := ⟨h.os, h.tape, h.output, h.size, fun k hk => h.block k hk (by simp)⟩
theorem grown_of_below {w w' : World} (h : Below w.heap.size w w') : w.grownBy w' none := ⟨h.os, h.tape, h.output, h.size, fun k hk _ => h.block k hk⟩
set_option maxRecDepth 100000 in
set_option maxHeartbeats 4000000 in
theorem shown_calls (w : World) : Calls Try.prog 8 #[] w fun e w' => e = .returned (.bool true) ∧ Below w.heap.size w w' := by
  go_enter Try.func8, Try.ntmps8
  go_wp2_with (go_at_call 9; refine (new_calls 9 10 (by decide) _).mono ?_; rintro e w1 ⟨rfl, hO, hB⟩)
  have HB := Lib.hid hB
  have hput := put_ok hO 1 25 7 (by decide) (by decide) (by decide) (by decide) (by simp)
  rw [show startF 10 25 = 20 from by decide] at hput
  simp only [chg] at hput
  have hs1 : w.heap.size ≤ w.heap.size + 1 := by omega
  clear hB hO
  generalize hs : w.heap.size + 1 = s at *
  have HS := Lib.hid hs1
  clear hs hs1
  generalize hb : w.heap.size = b at hput ⊢
  have HBb := Lib.hid hb
  clear hb
  go_wp2_with (go_at_call 10; refine hput.mono ?_; rintro e w2 ⟨rfl, hO2, hg2⟩)
  have hO3 := hO2.kept (World.grownBy_alloc w2 (.cells #[.int .i64 1, .int .i64 20, .int .i64 30, .int .i64 7, .bool false] 30) none) (by simp) (by simp)
  have HB2 := Lib.hid (HB.out.grown hg2 HB.out.size (fun j hj => by cases hj; exact Nat.le_of_eq HBb.out))
  have HB3 := Lib.hid (HB2.out.alloc HB2.out.size (.cells #[.int .i64 1, .int .i64 20, .int .i64 30, .int .i64 7, .bool false] 30))
  have hblk := (MapKept.heap_alloc w2 (.cells #[.int .i64 1, .int .i64 20, .int .i64 30, .int .i64 7, .bool false] 30)).1
  have hlt := hO2.lt.2.1
  clear hput hg2 hO2 HB2
  generalize w2.alloc (.cells #[.int .i64 1, .int .i64 20, .int .i64 30, .int .i64 7, .bool false] 30) = W3 at *
  generalize w2.heap.size = g at *
  clear w2
  have hget := get_calls hO3 1 29 (by decide) (by decide)
  rw [show startF 10 29 = 20 from by decide, show look (put ((20 : Int), (1 : Int)) 7 []) (20, 1) = some 7 from by decide] at hget
  simp only [Option.getD_some, Option.isSome_some] at hget
  have HO3 := Lib.hid hO3
  have HK := Lib.hid hblk
  clear hO3 hblk
  go_wp2_with (go_at_call 11; refine hget.mono ?_; rintro e w4 ⟨rfl, q, rfl⟩)
  have hex := expire_calls (HO3.out.drewN q) 29
  rw [show outT 10 29 (put ((20 : Int), (1 : Int)) 7 []) = [] from by decide, show restM 10 29 (put ((20 : Int), (1 : Int)) 7 []) = put (20, 1) 7 [] from by decide] at hex
  clear hget
  go_wp2_with fail
  refine hex.mono ?_
  rintro e w5 ⟨v5, rfl, hR5, hO5, hg5⟩
  obtain ⟨A5, c5, rfl, _, _⟩ := Kd.R_reads hR5
  have hex2 := expire_calls hO5 30
  rw [show outT 10 30 (put ((20 : Int), (1 : Int)) 7 []) = [(1, 20, 30, 0, true)] from by decide] at hex2
  have HG5 := Lib.hid (grown_undrew hg5)
  clear hex hR5 hO5 hg5
  go_wp2_with fail
  refine hex2.mono ?_
  rintro e w6 ⟨v6, rfl, hR6, hO6, hg6⟩
  obtain ⟨A6, c6, rfl, hc6, hC6⟩ := Kd.R_reads hR6
  have hcell := HK.out
  have hb6 : w6.heap[g]? = some (.cells #[.int .i64 1, .int .i64 20, .int .i64 30, .int .i64 7, .bool false] 30 (0, 0)) :=
    (hg6.block g (Nat.lt_of_lt_of_le (Array.getElem?_eq_some_iff.1 HK.out).1 HG5.out.size) (fun e => by have := Option.some.inj e; omega)).trans ((HG5.out.block g (Array.getElem?_eq_some_iff.1 HK.out).1 (fun e => by have := Option.some.inj e; omega)).trans HK.out)
  have z0 := (blk_cell hb6 0).trans rfl
  have z1 := (blk_cell hb6 1).trans rfl
  have z2 := (blk_cell hb6 2).trans rfl
  have z3 := (blk_cell hb6 3).trans rfl
  have z4 := (blk_cell hb6 4).trans rfl
  clear hex2 hcell hb6
  have HF := Lib.hid (And.intro hC6 hg6)
  clear hR6 hO6 hg6 hC6
  go_wp2_with fail
  have hC7 := Kd.C_below HF.out.1 ((Below.refl w6.heap.size w6).alloc (Nat.le_refl _) (.cells #[.int .i64 1, .int .i64 20, .int .i64 30, .int .i64 0, .bool true] 30))
  have hD7 := row1_C (x := (1, 20, 30, 0, true)) (MapKept.heap_alloc w6 (.cells #[.int .i64 1, .int .i64 20, .int .i64 30, .int .i64 0, .bool true] 30)).1
  refine (changes_calls (c := c6) (d := 1) hC7 hc6 hD7 (Nat.le_refl _) (by decide)).mono ?_
  rintro e w8 ⟨rfl, q8, rfl⟩
  rw [decide_eq_true rfl]
  go_wp2
  go_ret
  refine ⟨rfl, ?_⟩
  have b1 : w.heap.size ≤ w6.heap.size := Nat.le_trans HB3.out.size (Nat.le_trans HG5.out.size HF.out.2.size)
  have b5 := HB3.out.grown HG5.out HB3.out.size (fun j hj => by cases hj; exact Nat.le_of_eq HBb.out)
  have b6 := b5.grown HF.out.2 b5.size (fun j hj => by cases hj; exact Nat.le_of_eq HBb.out)
  exact pw_below_drewN (b6.alloc b1 _) q8
end Go.Proofs.Ytcjhllpbbbjaiaa.Win
