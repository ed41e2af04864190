import Derived.Test.YtanhibhcmfmeeaaExVal
/- The walk of value at two operands, and at three. -/
namespace Go.Proofs.Ytanhibhcmfmeeaa.Ex
open Go.RowKit Go.Proofs.YtanhibhcmfmeeaaW.PrintWords Go.Proofs.Ytanhibhcmfmeeaa.Cut Go.Proofs.Ytanhibhcmfmeeaa.Fr
set_option maxHeartbeats 8000000 in
theorem val_two (q : Ask) (op n : Int) (hop : isTwo op) (a b : Ex) (ha : ValP q a) (hb : ValP q b) (v : Value) (w : World) (hv : ExV w (.mk op n [a, b]) v) : Calls Try.prog 35 #[askV q, v] w fun e w' => e = endV ((valF q a).bind fun x => (valF q b).bind fun y => twoF op x y) ∧ Below w.heap.size w w' := by
  obtain ⟨A, c, rfl, w1, w2, hlen, hK⟩ := hv.out
  simp only [Ex.op, Ex.n, Ex.kids, List.length_cons, List.length_nil, Nat.zero_add] at w1 w2 hK ⊢
  obtain ⟨ad, o, m, B, k, c1, rfl, hk⟩ := kid_val hK 0 a rfl ha
  obtain ⟨ad', o', m', B', k', c1', hA', hk'⟩ := kid_val hK 1 b rfl hb
  obtain rfl := Option.some.inj hA'
  replace hk' := hk' ⟨ad.block, ad.off + 3, none⟩ rfl
  replace hk := hk _ (add0 ad)
  have h2 := fun x y W => two_calls op x y hop W
  unfold askV
  obtain ⟨W, hW, hX⟩ := boxes w q op n (some ad) 2 c
  obtain ⟨c0, c1', c2, c3⟩ := hX.c
  obtain ⟨e0, e1, e2⟩ := hX.e
  have HW := Lib.hid hW; have HX := Lib.hid hX; have HK := Lib.hid hk'; have HO := Lib.hid hop
  obtain ⟨k0, k1, k2, hcd⟩ := hk W.drew (below_drew hX.below)
  have n1 : (op == 1) = false := by unfold isTwo at hop; exact beq_eq_false_iff_ne.2 (by omega)
  have n2 : (op == 2) = false := by unfold isTwo at hop; exact beq_eq_false_iff_ne.2 (by omega)
  have n3 : (op == 3) = false := by unfold isTwo at hop; exact beq_eq_false_iff_ne.2 (by omega)
  have n4 : (op == 4) = false := by unfold isTwo at hop; exact beq_eq_false_iff_ne.2 (by omega)
  have n5 : (op == 5) = false := by unfold isTwo at hop; exact beq_eq_false_iff_ne.2 (by omega)
  have n14 : (op == 14) = false := by unfold isTwo at hop; exact beq_eq_false_iff_ne.2 (by omega)
  have n13 : (op == 13) = false := by unfold isTwo at hop; exact beq_eq_false_iff_ne.2 (by omega)
  clear hk hv hK ha hb hW hX hk' hop hlen w1 w2
  cases hva : valF q a with
  | none =>
    simp only [hva, endV] at hcd
    simp only [Option.bind_none]
    go_enter Try.func35, Try.ntmps35
    go_wp2_with fail
    rw [← HW.out]
    go_region_dies
    all_goals
      go_wp2_with ((with_reducible refine hcd.mono ?_); rintro e w4 ⟨rfl, hB4⟩)
      exact ⟨rfl, rfl, (HX.out.step hB4).below⟩
  | some x =>
    simp only [hva, endV] at hcd
    simp only [Option.bind_some]
    go_enter Try.func35, Try.ntmps35
    go_upto_region 18 with fail
    rw [← HW.out]
    go_cut [5] (fun u wx => u = .int .i64 x ∧ Bx w wx q op n (some ad) 2 c)
    case first =>
      go_region_with ((with_reducible refine hcd.mono ?_); rintro e w4 ⟨rfl, hB4⟩; have HB4 := Lib.hid hB4; clear hB4)
      all_goals
        go_wp2_with fail
        go_meet
        case rel => exact ⟨rfl, HX.out.step HB4.out⟩
    case rest =>
      clear c0 c1' c2 c3 e0 e1 e2 k0 k1 k2 hcd HX HW
      obtain ⟨rfl, hX⟩ := hcut
      rename World => wx
      obtain ⟨c0, c1', c2, c3⟩ := hX.c
      obtain ⟨e0, e1, e2⟩ := hX.e
      obtain ⟨k0, k1, k2, hcd⟩ := HK.out wx.drew (below_drew hX.below)
      have HX := Lib.hid hX
      clear hX HK hA'
      cases hvb : valF q b with
      | none =>
        simp only [hvb, endV] at hcd
        go_wp2_with fail
        go_region_dies
        all_goals
          go_wp2_with ((with_reducible refine hcd.mono ?_); rintro e w4 ⟨rfl, hB4⟩)
          exact ⟨rfl, by simp [hvb, endV], (HX.out.step hB4).below⟩
      | some y =>
        simp only [hvb, endV] at hcd
        have h2 := h2 x y
        cases ht : twoF op x y with
        | none =>
          simp only [ht, endV] at h2
          go_upto_region 19 with fail
          go_region_with ((with_reducible refine hcd.mono ?_); rintro e w4 ⟨rfl, hB4⟩; have HB4 := Lib.hid hB4; clear hB4)
          all_goals
            have e0' := (HX.out.step HB4.out).e.1
            go_wp2_with ((with_reducible refine (h2 _).mono ?_); rintro e w5 ⟨rfl, rfl⟩)
            exact ⟨rfl, by simp [hvb, ht, endV], (HX.out.step HB4.out).below⟩
        | some z =>
          simp only [ht, endV] at h2
          go_upto_region 19 with fail
          go_region_with ((with_reducible refine hcd.mono ?_); rintro e w4 ⟨rfl, hB4⟩; have HB4 := Lib.hid hB4; clear hB4)
          all_goals
            have e0' := (HX.out.step HB4.out).e.1
            go_wp2_with ((with_reducible refine (h2 _).mono ?_); rintro e w5 ⟨rfl, rfl⟩)
            go_ret
            exact ⟨by simp [hvb, ht, endV], (HX.out.step HB4.out).below⟩
set_option maxHeartbeats 8000000 in
theorem val_if (q : Ask) (n : Int) (a b d : Ex) (ha : ValP q a) (hb : ValP q b) (hd : ValP q d) (v : Value) (w : World) (hv : ExV w (.mk 13 n [a, b, d]) v) : Calls Try.prog 35 #[askV q, v] w fun e w' => e = endV ((valF q a).bind fun x => if x ≠ 0 then valF q b else valF q d) ∧ Below w.heap.size w w' := by
  obtain ⟨A, c, rfl, w1, w2, hlen, hK⟩ := hv.out
  simp only [Ex.op, Ex.n, Ex.kids, List.length_cons, List.length_nil, Nat.zero_add] at w1 w2 hK ⊢
  obtain ⟨ad, o, m, B, k, c1, rfl, hk⟩ := kid_val hK 0 a rfl ha
  obtain ⟨ad', o', m', B', k', c1', hA', hk'⟩ := kid_val hK 1 b rfl hb
  obtain rfl := Option.some.inj hA'
  obtain ⟨ad', o2, m2, B2, k2, c2', hA2, hk2⟩ := kid_val hK 2 d rfl hd
  obtain rfl := Option.some.inj hA2
  replace hk' := hk' ⟨ad.block, ad.off + 3, none⟩ rfl
  replace hk2 := hk2 ⟨ad.block, ad.off + 6, none⟩ rfl
  replace hk := hk _ (add0 ad)
  unfold askV
  obtain ⟨W, hW, hX⟩ := boxes w q 13 n (some ad) 3 c
  obtain ⟨c0, c1', c2, c3⟩ := hX.c
  obtain ⟨e0, e1, e2⟩ := hX.e
  have HW := Lib.hid hW; have HX := Lib.hid hX; have HK := Lib.hid hk'; have HK2 := Lib.hid hk2
  obtain ⟨k0, k1, k2, hcd⟩ := hk W.drew (below_drew hX.below)
  clear hk hv hK ha hb hd hW hX hk' hk2 hlen w1 w2 hA' hA2
  cases hva : valF q a with
  | none =>
    simp only [hva, endV] at hcd
    simp only [Option.bind_none]
    go_enter Try.func35, Try.ntmps35
    go_wp2_with fail
    rw [← HW.out]
    go_region_dies
    all_goals
      go_wp2_with ((with_reducible refine hcd.mono ?_); rintro e w4 ⟨rfl, hB4⟩)
      exact ⟨rfl, rfl, (HX.out.step hB4).below⟩
  | some x =>
    simp only [hva, endV] at hcd
    simp only [Option.bind_some]
    have hfin : ∃ r : Option Int, r = (if x ≠ 0 then valF q b else valF q d) ∧ ∃ (p : Addr) (o4 m4 : Int) (B4 : Option Addr) (k4 c4 : Nat), p = (if x ≠ 0 then ⟨ad.block, ad.off + 3, none⟩ else ⟨ad.block, ad.off + 6, none⟩) ∧ ∀ W, Below w.heap.size w W → W.cell? p = some (.int .i64 o4) ∧ W.cell? ⟨p.block, p.off + 1, none⟩ = some (.int .i64 m4) ∧ W.cell? ⟨p.block, p.off + 2, none⟩ = some (.slice B4 k4 c4) ∧
      Calls Try.prog 35 #[.agg #[.int .i64 q.key, .int .i64 q.val, .int .i64 q.time, .int .i64 q.acc], .agg #[.int .i64 o4, .int .i64 m4, .slice B4 k4 c4]] W fun e w' => e = endV r ∧ Below W.heap.size W w' := by
      by_cases hx : x ≠ 0
      · exact ⟨_, rfl, ⟨ad.block, ad.off + 3, none⟩, o', m', B', _, _, by rw [if_pos hx], by rw [if_pos hx]; exact HK.out⟩
      · exact ⟨_, rfl, ⟨ad.block, ad.off + 6, none⟩, o2, m2, B2, _, _, by rw [if_neg hx], by rw [if_neg hx]; exact HK2.out⟩
    obtain ⟨r, hr, p, o4, m4, B4, k4, c4, hp, hkk⟩ := hfin
    rw [← hr]
    have HKK := Lib.hid hkk
    clear hr hkk HK HK2
    by_cases hx : x = 0
    · rw [if_neg (by simpa using hx)] at hp
      subst hp
      go_enter Try.func35, Try.ntmps35
      go_upto_region 15 with fail
      rw [← HW.out]
      go_cut [49] (fun u wx => u = .bool false ∧ Bx w wx q 13 n (some ad) 3 c)
      case first =>
        go_region_with ((with_reducible refine hcd.mono ?_); rintro e w4 ⟨rfl, hB4⟩; have HB4 := Lib.hid hB4; clear hB4)
        all_goals
          go_wp2_with fail
          go_meet
          case rel => exact ⟨rfl, HX.out.step HB4.out⟩
      case rest =>
        clear c0 c1' c2 c3 e0 e1 e2 k0 k1 k2 hcd HX HW
        obtain ⟨rfl, hX⟩ := hcut
        rename World => wx
        obtain ⟨c0, c1', c2, c3⟩ := hX.c
        obtain ⟨e0, e1, e2⟩ := hX.e
        obtain ⟨k0, k1, k2, hcd⟩ := HKK.out wx.drew (below_drew hX.below)
        simp only at k0 k1 k2
        have HX := Lib.hid hX
        clear hX HKK
        cases r with
        | none =>
          simp only [endV] at hcd
          go_wp2_with fail
          go_region_dies
          all_goals
            go_wp2_with ((with_reducible refine hcd.mono ?_); rintro e w4 ⟨rfl, hB4⟩)
            exact ⟨rfl, rfl, (HX.out.step hB4).below⟩
        | some y =>
          simp only [endV] at hcd
          go_wp2_with fail
          go_region_with ((with_reducible refine hcd.mono ?_); rintro e w4 ⟨rfl, hB4⟩; have HB4 := Lib.hid hB4; clear hB4)
          all_goals
            go_wp2_with fail
            go_ret
            exact ⟨rfl, (HX.out.step HB4.out).below⟩
    · rw [if_pos hx] at hp
      subst hp
      go_enter Try.func35, Try.ntmps35
      go_upto_region 15 with fail
      rw [← HW.out]
      go_cut [49] (fun u wx => u = .bool true ∧ Bx w wx q 13 n (some ad) 3 c)
      case first =>
        go_region_with ((with_reducible refine hcd.mono ?_); rintro e w4 ⟨rfl, hB4⟩; have HB4 := Lib.hid hB4; clear hB4)
        all_goals
          go_wp2_with fail
          go_meet
          case rel => exact ⟨by simp [hx], HX.out.step HB4.out⟩
      case rest =>
        clear c0 c1' c2 c3 e0 e1 e2 k0 k1 k2 hcd HX HW
        obtain ⟨rfl, hX⟩ := hcut
        rename World => wx
        obtain ⟨c0, c1', c2, c3⟩ := hX.c
        obtain ⟨e0, e1, e2⟩ := hX.e
        obtain ⟨k0, k1, k2, hcd⟩ := HKK.out wx.drew (below_drew hX.below)
        simp only at k0 k1 k2
        have HX := Lib.hid hX
        clear hX HKK
        cases r with
        | none =>
          simp only [endV] at hcd
          go_wp2_with fail
          go_region_dies
          all_goals
            go_wp2_with ((with_reducible refine hcd.mono ?_); rintro e w4 ⟨rfl, hB4⟩)
            exact ⟨rfl, rfl, (HX.out.step hB4).below⟩
        | some y =>
          simp only [endV] at hcd
          go_wp2_with fail
          go_region_with ((with_reducible refine hcd.mono ?_); rintro e w4 ⟨rfl, hB4⟩; have HB4 := Lib.hid hB4; clear hB4)
          all_goals
            go_wp2_with fail
            go_ret
            exact ⟨rfl, (HX.out.step HB4.out).below⟩
end Go.Proofs.Ytanhibhcmfmeeaa.Ex
