import Derived.Test.YtanhibhcmfmeeaaKvM
/- The walk of slices.BinarySearchFunc over pairs. -/
namespace Go.Proofs.Ytanhibhcmfmeeaa.Kv
open Go.RowKit Go.Proofs.YtanhibhcmfmeeaaW.PrintWords Go.Proofs.Ytanhibhcmfmeeaa.Cut Go.Proofs.Ytanhibhcmfmeeaa.Fr Go.Proofs.Ytanhibhcmfmeeaa.SlK
/-- A row of pairs, as it is read; wherever memory is made behind it. -/
theorem row_cells {w : World} {base : Nat} {v : Value} {l : L2} (h : w.ownsRow base 97 2 v l.length (l.flatMap enc2)) : ∃ A c, v = .slice A l.length c ∧ l.length ≤ c ∧ ∀ i p, l[i]? = some p → ∃ g, A = some ⟨g, 0, none⟩ ∧ ∀ W, Below w.heap.size w W → W.cell? ⟨g, i * 2, none⟩ = some (.int .i64 p.1) ∧ W.cell? ⟨g, i * 2 + 1, none⟩ = some (.int .i64 p.2) := by
  rcases h.2 with ⟨rfl, h0⟩ | ⟨g, cap, cur, rfl, hg, hh, h1, h2, h3, h4⟩
  · refine ⟨none, 0, by rw [h0], by omega, fun i p hp => ?_⟩
    obtain rfl := List.eq_nil_of_length_eq_zero h0
    simp at hp
  · refine ⟨_, cap, rfl, h1, fun i p hp => ⟨g, rfl, fun W hW => ?_⟩⟩
    have hW' := (hW.block g (Array.getElem?_eq_some_iff.1 hh).1).trans hh
    obtain ⟨e1, e2⟩ := enc2_get l i p hp
    have hi := (List.getElem?_eq_some_iff.1 hp).1
    rw [← h4] at e1 e2
    rw [List.getElem?_take_of_lt (by omega)] at e1 e2
    exact ⟨by rw [blk_cell hW', ← Array.getElem?_toList]; exact e1, by rw [blk_cell hW', ← Array.getElem?_toList]; exact e2⟩
theorem pair_at {l : L2} (hs : Sorted l) {i j : Nat} (h : i < j) {x y : P2} (hx : l[i]? = some x) (hy : l[j]? = some y) : x.1 < y.1 := by
  have hi := (List.getElem?_eq_some_iff.1 hx).1
  have hj := (List.getElem?_eq_some_iff.1 hy).1
  have := List.pairwise_iff_getElem.1 hs i j hi hj h
  rw [List.getElem?_eq_getElem hi] at hx
  rw [List.getElem?_eq_getElem hj] at hy
  rw [← Option.some.inj hx, ← Option.some.inj hy]
  exact this
theorem pair_lt {l : L2} (hs : Sorted l) {i j : Nat} (h : i < j) {x y : P2} {key : Int} (hx : l[i]? = some x) (hy : l[j]? = some y) (hk : y.1 < key) : x.1 < key := by
  have := pair_at hs h hx hy
  omega
set_option maxHeartbeats 4000000 in
set_option maxRecDepth 100000 in
theorem bs_calls {w : World} {base : Nat} {v : Value} {l : L2} (h : w.ownsRow base 97 2 v l.length (l.flatMap enc2)) (hs : Sorted l) (hl : l.length ≤ 1000000) (key : Int) :
    Calls Try.prog 60 #[v, .int .i64 key, .func (.func 61) #[] #[]] w fun e w' => e = .returned (.tuple #[.int .i64 (idx key l), .bool (look l key).isSome]) ∧ Below w.heap.size w w' := by
  obtain ⟨A, c, rfl, hc, hcl⟩ := row_cells h
  have HC := Lib.hid hcl
  have HS := Lib.hid hs
  obtain ⟨r1, hr1⟩ : ∃ r : Nat, r = idx key l := ⟨_, rfl⟩
  obtain ⟨r2, hr2⟩ : ∃ r : Bool, r = (look l key).isSome := ⟨_, rfl⟩
  rw [← hr1, ← hr2]
  have HR := Lib.hid (And.intro hr1 hr2)
  clear hr1 hr2
  obtain ⟨n, hn⟩ : ∃ n, n = l.length := ⟨_, rfl⟩
  rw [← hn] at hc hl ⊢
  have HN := Lib.hid hn
  clear hcl hs hn h
  go_enter Try.func60, Try.ntmps60
  go_wp2_with fail
  go_loopw [9, 10] (fun i j wr => ∃ (a b : Nat), a ≤ b ∧ b ≤ n ∧ i = .int .i64 a ∧ j = .int .i64 b ∧ (∀ k p, k < a → l[k]? = some p → p.1 < key) ∧ (∀ k p, b ≤ k → l[k]? = some p → key ≤ p.1) ∧ Below w.heap.size w wr) (fun i j _ => (intOf j).toNat - (intOf i).toNat)
  case atStart => exact ⟨0, n, Nat.zero_le _, Nat.le_refl _, rfl, rfl, fun k p hk => by omega, fun k p hk hp => by
    have := (List.getElem?_eq_some_iff.1 hp).1
    rw [← HN.out] at this; omega, Below.refl _ _⟩
  case round =>
    obtain ⟨a, b, hab, hbn, rfl, rfl, hlo, hhi, hB⟩ := hrel
    have HLO := Lib.hid hlo; have HHI := Lib.hid hhi; have HB := Lib.hid hB
    clear hlo hhi hB
    by_cases hlt : a < b
    · obtain ⟨m, hm⟩ : ∃ m : Nat, m = (a + b) / 2 := ⟨_, rfl⟩
      have m1 : ((a : Int) + (b : Int)) / 2 = (m : Int) := by omega
      have m2 : m < n := by omega
      have m3 : a ≤ m := by omega
      have m4 : m < b := by omega
      have m5 : (m : Int) < (n : Int) := by omega
      have m6 : ((m : Int)).toNat = m := by omega
      have hml : m < l.length := by rw [← HN.out]; exact m2
      obtain ⟨g, rfl, hcell⟩ := HC.out m l[m] (List.getElem?_eq_getElem hml)
      obtain ⟨p1, p2⟩ := hcell wr HB.out
      have HP := Lib.hid (show l[m]? = some l[m] from List.getElem?_eq_getElem hml)
      generalize l[m] = x at p1 p2 HP
      have hcl := clo_calls x.1 x.2 key wr
      have HM := Lib.hid hm
      clear hcell hm HC
      by_cases hx : x.1 < key
      · have e : cmpI x.1 key = -1 := if_pos hx
        rw [e] at hcl
        go_wp2_with ((with_reducible refine hcl.mono ?_); rintro e w1 ⟨rfl, hB1⟩)
        have hB2 := below_then HB.out HB.out.size hB1
        go_roundw
        case rel =>
          refine ⟨m + 1, b, by omega, hbn, by go_num, rfl, fun k p hk hp => ?_, HHI.out, hB2⟩
          have hkm : k < m ∨ k = m := by omega
          rcases hkm with hkm | rfl
          · exact pair_lt HS.out hkm hp HP.out hx
          · rw [HP.out] at hp
            obtain rfl := Option.some.inj hp
            exact hx
        case measure => simp [intOf]; omega
      · have e : cmpI x.1 key = 0 ∨ cmpI x.1 key = 1 := by unfold cmpI; rw [if_neg hx]; split <;> omega
        generalize cmpI x.1 key = y at e hcl
        have hy : ¬ y < 0 := by omega
        clear e
        go_wp2_with ((with_reducible refine hcl.mono ?_); rintro e w1 ⟨rfl, hB1⟩)
        have hB2 := below_then HB.out HB.out.size hB1
        go_roundw
        case rel =>
          refine ⟨a, m, by omega, by omega, rfl, rfl, HLO.out, fun k p hk hp => ?_, hB2⟩
          have hkm : m < k ∨ m = k := by omega
          rcases hkm with hkm | rfl
          · have := pair_at HS.out hkm HP.out hp
            omega
          · rw [HP.out] at hp
            obtain rfl := Option.some.inj hp
            omega
        case measure => simp [intOf]; omega
    · obtain rfl : a = b := by omega
      have hid : idx key l = a := idx_uniq (by rw [← HN.out]; exact hbn) HLO.out fun p hp => HHI.out a p (Nat.le_refl _) hp
      have hlk := look_idx (key := key) HS.out
      rw [hid] at hlk
      obtain rfl : r1 = a := HR.out.1.trans hid
      have hr2 := HR.out.2
      by_cases hlt2 : r1 < n
      · have hal : r1 < l.length := by rw [← HN.out]; exact hlt2
        obtain ⟨g, rfl, hcell⟩ := HC.out r1 l[r1] (List.getElem?_eq_getElem hal)
        obtain ⟨p1, p2⟩ := hcell wr HB.out
        rw [List.getElem?_eq_getElem hal, Option.bind_some] at hlk
        generalize l[r1] = x at p1 p2 hlk
        have hcl := clo_calls x.1 x.2 key wr
        have hlti : (r1 : Int) < (n : Int) := by omega
        have hB := HB.out
        by_cases hx : x.1 = key
        · have e : cmpI x.1 key = 0 := by unfold cmpI; rw [if_neg (by omega), if_neg (by omega)]
          rw [if_pos hx] at hlk
          rw [hlk] at hr2
          subst hr2
          rw [e, hx] at hcl
          rw [hx] at p1
          clear hcell HC hlk e hid hx
          go_wp2_with ((with_reducible refine hcl.mono ?_); rintro e w1 ⟨rfl, hB1⟩)
          go_ret2
          exact ⟨rfl, below_then hB hB.size hB1⟩
        · have e : (cmpI x.1 key == 0) = false := by
            unfold cmpI
            rw [beq_eq_false_iff_ne]
            split
            · decide
            · split
              · decide
              · omega
          rw [if_neg hx] at hlk
          rw [hlk] at hr2
          subst hr2
          generalize cmpI x.1 key = y at e hcl
          clear hcell HC hlk hid
          go_wp2_with ((with_reducible refine hcl.mono ?_); rintro e w1 ⟨rfl, hB1⟩)
          go_ret2
          exact ⟨rfl, below_then hB hB.size hB1⟩
      · obtain rfl : r1 = n := by omega
        rw [List.getElem?_eq_none (by rw [← HN.out]; exact Nat.le_refl _), Option.bind_none] at hlk
        rw [hlk] at hr2
        subst hr2
        have hB := HB.out
        clear HC hlk hid
        go_wp2_with fail
        go_ret2
        exact ⟨rfl, hB⟩
end Go.Proofs.Ytanhibhcmfmeeaa.Kv
