import Derived.Test.YtcjhllpbbbjaiaaWinAny
/- What has ended is taken away, and nothing else. -/
namespace Go.Proofs.Ytcjhllpbbbjaiaa.Win
open Go.RowKit Go.Maps Go.Proofs.YtcjhllpbbbjaiaaW.PrintWords Go.Proofs.YtcjhllpbbbjaiaaW.PrintMore Go.Proofs.Ytcjhllpbbbjaiaa.Cut Go.Proofs.Ytcjhllpbbbjaiaa.PWinAgain
attribute [local go_sem high] eqA30
theorem R_C {α : Type} {d : Kd α} {e base n c : Nat} {w : World} {ok : Nat → Prop} {A : Option Addr} {xs : List α} (h : d.R e w base ok (.slice A n c) xs) : d.C w A xs.length xs := by
  obtain ⟨_, _, e1, _, hC⟩ := Kd.R_reads h
  injection e1 with e1
  subst e1
  exact hC
structure W9 (x : T9) : Prop where
  key : W64 x.2.1
  val : W64 x.2.2.2.1
set_option maxRecDepth 100000 in
set_option maxHeartbeats 4000000 in
theorem ends_walk (size before : Int) (h0 : 0 ≤ size) (h1 : size ≤ 255) (A : Option Addr) (c : Nat) (l : List T9) (w : World) (hC : K9.C w A l.length l) (hW : ∀ x ∈ l, W9 x) :
    Calls Try.prog 5 #[.int .u8 size, .slice A l.length c, .int .i64 before] w fun e w' => e = .returned (.bool true) ∧ Below w.heap.size w w' := by
  have hsh := shown_calls w
  have HN := fun w => new_calls 1024 (1 + size) (by omega) w
  have hlm : l.length ≤ 9223372036854775807 := hC.2.1
  have HC := Lib.hid hC
  have HW := Lib.hid hW
  obtain ⟨n, hn⟩ : ∃ n, n = l.length := ⟨_, rfl⟩
  rw [← hn] at HC hlm ⊢
  have HL := Lib.hid hn
  clear hC hW hn
  go_enter Try.func5, Try.ntmps5
  go_wp2_with (first
    | (go_at_call 8; refine hsh.mono ?_; rintro e w1 ⟨rfl, hB⟩; have HB := Lib.hid hB; clear hB)
    | (go_at_call 9; refine (HN _).mono ?_; rintro e w2 ⟨rfl, hO2, hB2⟩; have HO2 := Lib.hid hO2; have HB2 := Lib.hid hB2; clear hO2 hB2))
  have hsz : w.heap.size ≤ w1.heap.size := HB.out.size
  generalize hs : w1.heap.size + 1 = s at *
  generalize hb : w1.heap.size = b at *
  have HS := Lib.hid hs
  have HBb := Lib.hid hsz
  have HBW := Lib.hid (below_then HB.out HB.out.size (by rw [hb]; exact HB2.out))
  clear HB HB2 HN hsh hs hb hsz
  go_loopw [10] (fun i wr => ∃ (k : Nat) (m : St), k ≤ n ∧ i = .int .i64 k ∧ Own wr s 1024 (1 + size) b m ∧ Below w.heap.size w wr) (fun i _ => n - (intOf i).toNat)
  case atStart => exact ⟨0, [], Nat.zero_le _, rfl, HO2.out, HBW.out⟩
  case round =>
    obtain ⟨k, m, hk, rfl, hO, hB⟩ := hrel
    by_cases hlt : k < n ∧ k < 100
    · obtain ⟨hlt1, hlt2⟩ := hlt
      have hlti : (k : Int) < (n : Int) := by omega
      have hlt2i : (k : Int) < 100 := by omega
      have hk0 : (0 : Int) ≤ (k : Int) := by omega
      obtain ⟨ad, x, rfl, hx, d0, d1, d2, d3⟩ := at_C9 (Kd.C_below HC.out hB) k hlt1
      have hwx := HW.out _ (List.mem_of_getElem? hx)
      obtain ⟨x1, x2, x3, x4, x5⟩ := x
      simp only at d0 d1 d2 d3
      have hput := put_any (hO.drewN 1) x2 x3 x4 hwx.key hwx.val
      have hb0 := below_drew hB
      have HP := Lib.hid hput
      have HB0 := Lib.hid hb0
      have e1 : wr.drew = wr.drewN 1 := rfl
      clear hput hx hwx hO hb0 hB d0
      go_upto_region 8 with fail
      refine wp_region_still_tail 16 (by kernel_rfl) (by kernel_rfl) ?_
      simp only [List.take_succ_cons, List.take_zero, List.drop_succ_cons, List.drop_zero]
      change wpStill _ _ wr.drew _ _ _
      repeat still_step
      refine wpStill_nil ?_
      change wpList _ _ _ _ _ (wr.drewN 1)
      rw [e1] at HB0
      clear d1 d2 d3 e1
      generalize wr.drewN 1 = W3 at *
      go_wp2_with (go_at_call 10; refine HP.out.mono ?_; rintro e w4 ⟨c1, c2, rfl, hO4, hg4⟩)
      have hb4 := HB0.out.grown hg4 HB0.out.size (fun j hj => by cases hj; exact HBb.out)
      go_roundw
      case rel => exact ⟨k + 1, _, by omega, by go_num, hO4, hb4⟩
      case measure => simp [intOf]; omega
    · have HO := Lib.hid hO
      have HB := Lib.hid hB
      have hl := list_calls hO
      have hml : m.length ≤ 1024 := by have := hO.fits; omega
      clear hO hB HO2 HBW
      by_cases hk1 : k < n
      all_goals
        have hlti : decide ((k : Int) < (n : Int)) = true ∨ decide ((k : Int) < (n : Int)) = false := by cases decide ((k : Int) < (n : Int)) <;> simp
        try have hk2 : (100 : Int) ≤ (k : Int) := by omega
        try have hk3 : (n : Int) ≤ (k : Int) := by omega
        try have hk4 : (k : Int) < (n : Int) := by omega
        clear hlt hlti
        go_wp2_with fail
        refine hl.mono ?_
        rintro e w3 ⟨v1, rfl, hR1, hB3⟩
        obtain ⟨A1, c1, rfl, hc1, _⟩ := Kd.R_reads hR1
        have hO3 := HO.out.kept (grown_of_below hB3) (by simp) (by simp)
        have he := expire_calls hO3 before
        have HR1 := Lib.hid hR1
        have HB3 := Lib.hid hB3
        have hn1 : (listT (1 + size) m).length = m.length := List.length_map _
        rw [hn1] at hc1 ⊢
        clear hl hR1 hB3 hO3
        go_wp2_with fail
        refine he.mono ?_
        rintro e w4 ⟨v2, rfl, hR2, hO4, hg4⟩
        obtain ⟨A2, c2, rfl, hc2, _⟩ := Kd.R_reads hR2
        have hl := list_calls hO4
        have he2 := fun (W : World) (h : Own W s 1024 (1 + size) b (restM (1 + size) before m)) => expire_calls h before
        rw [out_rest HO.out.sorted] at he2
        have HR2 := Lib.hid hR2
        have HG4 := Lib.hid hg4
        have HO4 := Lib.hid hO4
        have HE2 := Lib.hid he2
        clear he hR2 hg4 hO4 he2
        go_wp2_with fail
        refine hl.mono ?_
        rintro e w5 ⟨v3, rfl, hR3, hB5⟩
        obtain ⟨A3, c3, rfl, hc3, _⟩ := Kd.R_reads hR3
        have he := HE2.out _ (HO4.out.kept (grown_of_below hB5) (by simp) (by simp))
        have HR3 := Lib.hid hR3
        have HB5 := Lib.hid hB5
        clear hl hR3 hB5 HE2
        go_wp2_with fail
        refine he.mono ?_
        rintro e w6 ⟨v4, rfl, hR4, hO6, hg6⟩
        obtain ⟨A4, c4, rfl, _, _⟩ := Kd.R_reads hR4
        have b3 : b < wr.heap.size := HO.out.lt.2.1
        have b4 : b < w3.heap.size := Nat.lt_of_lt_of_le b3 HB3.out.size
        have b5 : b < w4.heap.size := Nat.lt_of_lt_of_le b4 HG4.out.size
        have C1 := R_grown_below (Kd.R_below (R_grown_below HR1.out HG4.out b3) HB5.out) hg6 b3
        have C2 := R_grown_below (Kd.R_below HR2.out HB5.out) hg6 b4
        have C3 := R_grown_below HR3.out hg6 b5
        have C1 := R_C C1
        have C2 := R_C C2
        have C3 := R_C C3
        rw [hn1] at C1
        have hpq := out_len (1 + size) before m
        have hfin : Below w.heap.size w w6 := by
          have f1 := below_then HB.out HB.out.size HB3.out
          have f2 := f1.grown HG4.out f1.size (fun j hj => by cases hj; exact HBb.out)
          have f3 := below_then f2 f2.size HB5.out
          exact f3.grown hg6 f3.size (fun j hj => by cases hj; exact HBb.out)
        have HF := Lib.hid hfin
        have HC := Lib.hid (And.intro C1 (And.intro C2 C3))
        have HSo := Lib.hid HO.out.sorted
        have HO1 := Lib.hid (fun i => out_at (size := 1 + size) (before := before) (m := m) (i := i))
        have HO2 := Lib.hid (fun i x => rest_at (size := 1 + size) (before := before) (m := m) (i := i) (x := x))
        generalize hp : (outT (1 + size) before m).length = p at *
        generalize hq : (listT (1 + size) (restM (1 + size) before m)).length = q at *
        generalize hN : m.length = N at *
        have HP := Lib.hid hp; have HQ := Lib.hid hq; have HNN := Lib.hid hN
        clear hp hq hN hn1 he hR4 hO6 hg6 HR1 HR2 HR3 HB3 HG4 HB5 HO4 C1 C2 C3 hfin HO b3 b4 b5
        have l1 : IntKind.i64.wrap ((p : Int) + (q : Int)) = (N : Int) := by rw [← hpq]; exact IntWalk.i64_in _ (by omega)
        have l2 : ((N : Int) != (N : Int)) = false := by simp
        clear hc2 hc3 hc1
        have HPQ := Lib.hid hpq
        clear hpq
        go_wp2_with fail
        go_loopw [15] (fun i wx => ∃ j q : Nat, j ≤ N ∧ i = .int .i64 j ∧ wx = w6.drewN q) (fun i _ => N - (intOf i).toNat)
        case atStart => exact ⟨0, 0, Nat.zero_le _, rfl, rfl⟩
        case round =>
          obtain ⟨j, q0, hj, rfl, rfl⟩ := hrel
          have hD := HC.out
          by_cases hjN : j < N
          · have hj1 : (j : Int) < (N : Int) := by omega
            have hj0 : (0 : Int) ≤ (j : Int) := by omega
            have hpq := HPQ.out
            obtain ⟨ad1, y1, rfl, hy1, a0, a1, a2, a3, a4⟩ := at_C5 hD.1 j hjN
            by_cases hjp : j < p
            · have hj2 : (j : Int) < (p : Int) := by omega
              obtain ⟨ad2, y2, rfl, hy2, b0, b1, b2, b3, b4⟩ := at_C5 hD.2.1 j hjp
              obtain ⟨x, hx, hx2, hx3⟩ := HO1.out j hjp
              obtain rfl : y1 = chgT (1 + size) x false := by
                unfold listT at hy1
                rw [List.getElem?_map, hx] at hy1
                exact (Option.some.inj hy1).symm
              obtain rfl : y2 = goneT (1 + size) x := by
                rw [hx2] at hy2
                exact (Option.some.inj hy2).symm
              obtain ⟨⟨x1, x2⟩, x3⟩ := x
              simp only [chgT, goneT] at a0 a1 a2 a3 a4 b0 b1 b2 b3 b4 hx3
              have t1 : (x2 != x2) = false := by simp
              have t2 : (x1 != x1) = false := by simp
              have t3 : decide (before < x1 + (1 + size)) = false := decide_eq_false (by omega)
              clear hD hx hx2 hy1 hy2 hpq
              go_upto_region 19 with fail
              go_quiet (fail)
              go_wp2
              go_roundw
              case rel => exact ⟨j + 1, q0 + nq, by omega, by go_num, by first | rfl | exact World.drewN_drewN ..⟩
              case measure => simp [intOf]; omega
            · have hj2 : (p : Int) ≤ (j : Int) := by omega
              obtain ⟨x, hx⟩ : ∃ x, m[j]? = some x := ⟨_, List.getElem?_eq_getElem (by rw [HNN.out]; exact hjN)⟩
              obtain ⟨hx2, hx3⟩ := HO2.out j x HSo.out hx (by omega)
              obtain ⟨ad3, y3, rfl, hy3, b0, b1, b2, b3, b4⟩ := at_C5 hD.2.2 (j - p) (by omega)
              obtain rfl : y1 = chgT (1 + size) x false := by
                unfold listT at hy1
                rw [List.getElem?_map, hx] at hy1
                exact (Option.some.inj hy1).symm
              obtain rfl : y3 = chgT (1 + size) x false := by
                unfold listT at hy3
                rw [List.getElem?_map, hx2] at hy3
                exact (Option.some.inj hy3).symm
              obtain ⟨⟨x1, x2⟩, x3⟩ := x
              simp only [chgT] at a0 a1 a2 a3 a4 b0 b1 b2 b3 b4 hx3
              have t3 : decide (x1 + (1 + size) ≤ before) = false := decide_eq_false (by omega)
              have s1 : IntKind.i64.wrap ((j : Int) - (p : Int)) = (j : Int) - (p : Int) := IntWalk.i64_in _ (by omega)
              have s2 : 0 ≤ (j : Int) - (p : Int) := by omega
              have s3 : (j : Int) - (p : Int) < (q : Int) := by omega
              have s4 : ((j : Int) - (p : Int)).toNat = j - p := by omega
              clear hD hx hx2 hy1 hy3 hpq
              go_upto_region 21 with fail
              go_quiet (fail)
              clear s1 s2 s3 s4
              go_wp2
              go_roundw
              case rel => exact ⟨j + 1, q0 + nq, by omega, by go_num, by first | rfl | exact World.drewN_drewN ..⟩
              case measure => simp [intOf]; omega
          · obtain rfl : j = N := by omega
            clear hD
            go_wp2
            go_ret
            exact ⟨rfl, pw_below_drewN HF.out _⟩
end Go.Proofs.Ytcjhllpbbbjaiaa.Win
