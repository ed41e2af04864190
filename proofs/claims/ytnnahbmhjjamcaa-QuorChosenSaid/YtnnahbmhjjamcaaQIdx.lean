import Derived.Test.YtnnahbmhjjamcaaQKeepP
/- IndexFunc with Chosen's closure: a reply's first cell of a slot. -/
namespace Go.Proofs.Ytnnahbmhjjamcaa.Quor
open Go.RowKit Go.Maps Go.Proofs.YtnnahbmhjjamcaaW.PrintWords Go.Proofs.Ytnnahbmhjjamcaa.Cut
set_option maxHeartbeats 2000000 in
theorem cloAt_calls (z : C4) (a : Int) (g : Nat) (w : World) (hg : w.cell? ⟨g, 0, none⟩ = some (.int .i64 a)) (hl : g < w.heap.size) :
    Calls Try.prog 23 #[encV z, .pointer (some ⟨g, 0, none⟩)] w fun e w' => e = .returned (.bool (decide (z.at_ = a))) ∧ Below w.heap.size w w' := by
  obtain ⟨za, ze, zb, zA, zc⟩ := z
  have hB := Lib.hid ((Below.refl w.heap.size w).alloc (Nat.le_refl _) (.cells #[.int .i64 za, .int .i64 ze, .slice zA zb.length zc] 28))
  have hgn : g ≠ w.heap.size := by omega
  have hng : w.heap.size ≠ g := by omega
  simp only [encV]
  by_cases h : za = a
  · subst h
    have hB2 := hB
    rw [decide_eq_true rfl]
    go_enter Try.func23, Try.ntmps23
    go_wp2
    go_ret
    exact ⟨rfl, hB.out⟩
  · rw [decide_eq_false h]
    have b1 : (za == a) = false := beq_eq_false_iff_ne.2 h
    go_enter Try.func23, Try.ntmps23
    go_wp2
    go_ret
    exact ⟨rfl, hB.out⟩
/-- Where a list's first cell of a slot stands. -/
def IdxIs (l : List C3) (a i : Int) : Prop := (i = -1 ∧ ∀ x ∈ l, x.1 ≠ a) ∨ ∃ (k : Nat) (z : C3), i = k ∧ l[k]? = some z ∧ z.1 = a ∧ ∀ (j : Nat) (y : C3), j < k → l[j]? = some y → y.1 ≠ a
set_option maxRecDepth 100000 in
set_option maxHeartbeats 4000000 in
theorem idx_calls (l : List C3) (A : Option Addr) (c : Nat) (a : Int) (g : Nat) (w : World) (hC : KC.C w A l.length l) (hg : w.cell? ⟨g, 0, none⟩ = some (.int .i64 a)) (hl : g < w.heap.size) :
    Calls Try.prog 22 #[.slice A l.length c, .func (.func 23) #[] #[.pointer (some ⟨g, 0, none⟩)]] w fun e w' => ∃ i, e = .returned (.int .i64 i) ∧ IdxIs l a i ∧ Below w.heap.size w w' := by
  have HC := Lib.hid hC
  have hlm : l.length ≤ 9223372036854775807 := hC.2.1
  have HG := Lib.hid hg
  obtain ⟨n, hnl⟩ : ∃ n, n = l.length := ⟨_, rfl⟩
  rw [← hnl] at HC hlm ⊢
  have HN := Lib.hid hnl
  clear hC hnl hg
  go_enter Try.func22, Try.ntmps22
  go_wp2
  go_loopw [5, 8] (fun _ i wx => ∃ (k : Nat), k ≤ n ∧ i = .int .i64 k ∧ Below w.heap.size w wx ∧ ∀ (j : Nat) (z : C3), j < k → l[j]? = some z → z.1 ≠ a) (fun _ i _ => n - (intOf i).toNat)
  case atStart => exact ⟨0, Nat.zero_le _, rfl, Below.refl _ _, fun j z h => absurd h (Nat.not_lt_zero _)⟩
  case round =>
    obtain ⟨k, hk, rfl, hB, hs⟩ := hrel
    rename World => wx
    have HS := Lib.hid hs
    clear hs
    by_cases hlt : k < n
    · have hlti : (k : Int) < (n : Int) := by omega
      have hk0 : (0 : Int) ≤ (k : Int) := by omega
      obtain ⟨ad, z, rfl, hz, _, a0, a1, a2⟩ := at_KC (Kd.C_below HC.out hB) k hlt
      have hcl := cloAt_calls z a g wx (cell_step (grown_of_below hB) HG.out (by simp)) (Nat.lt_of_lt_of_le hl hB.size)
      have HX := Lib.hid (And.intro hz hB)
      simp only [encV] at hcl
      clear hz hB
      by_cases he : z.at_ = a
      · subst he
        rw [decide_eq_true rfl] at hcl
        go_wp2_with (go_at_call 23; refine hcl.mono ?_; rintro e w' ⟨rfl, hb⟩)
        go_ret
        exact ⟨k, rfl, .inr ⟨k, z.c3, rfl, HX.out.1, rfl, HS.out⟩, below_then HX.out.2 HX.out.2.size hb⟩
      · rw [decide_eq_false he] at hcl
        go_wp2_with (go_at_call 23; refine hcl.mono ?_; rintro e w' ⟨rfl, hb⟩)
        go_roundw
        case rel =>
          refine ⟨k + 1, by omega, by go_num, below_then HX.out.2 HX.out.2.size hb, fun j y hj hy => ?_⟩
          by_cases hjk : j = k
          · subst hjk
            rw [HX.out.1] at hy
            obtain rfl := Option.some.inj hy
            exact he
          · exact HS.out j y (by omega) hy
        case measure => simp only [intOf]; omega
    · have hlti : (n : Int) ≤ (k : Int) := by omega
      have HB := Lib.hid hB
      clear hB
      go_wp2
      go_ret
      refine ⟨-1, rfl, .inl ⟨rfl, fun x hx => ?_⟩, HB.out⟩
      obtain ⟨q, hq, rfl⟩ := List.mem_iff_getElem.1 hx
      have hNN := HN.out
      exact HS.out q _ (by omega) (List.getElem?_eq_getElem hq)
end Go.Proofs.Ytnnahbmhjjamcaa.Quor
