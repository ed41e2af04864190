import Derived.Test.YtnnahbmhjjamcaaQRows
/- First; what is merged again. -/
namespace Go.Proofs.Ytnnahbmhjjamcaa.Quor
open Go.RowKit Go.Maps Go.Proofs.YtnnahbmhjjamcaaW.PrintWords Go.Proofs.Ytnnahbmhjjamcaa.Cut
theorem best3_ge : ∀ (x : P3) (l : List P3), ∀ y ∈ x :: l, y.2.1 ≤ (best3 x l).2.1
  | x, [], y, h => by
    obtain rfl : y = x := by simpa using h
    exact Int.le_refl _
  | x, z :: r, y, h => by
    unfold best3
    rw [List.foldl_cons]
    have step : ∀ (u : P3), x.2.1 ≤ u.2.1 → z.2.1 ≤ u.2.1 → y.2.1 ≤ (List.foldl (fun x y => if x.2.1 < y.2.1 then y else x) u r).2.1 ∨ True := fun _ _ _ => .inr trivial
    by_cases c : x.2.1 < z.2.1
    · rw [if_pos c]
      have ih := best3_ge z r
      rcases List.mem_cons.1 h with rfl | h
      · exact Int.le_trans (Int.le_of_lt c) (ih z List.mem_cons_self)
      · exact ih y h
    · rw [if_neg c]
      have ih := best3_ge x r
      rcases List.mem_cons.1 h with rfl | h
      · exact ih y List.mem_cons_self
      · rcases List.mem_cons.1 h with rfl | h
        · exact Int.le_trans (Int.not_lt.1 c) (ih x List.mem_cons_self)
        · exact ih y (List.mem_cons_of_mem _ h)
theorem bestAt_ge {l : List P3} {a : Int} {c : P3} (h : bestAt l a = some c) : ∀ x ∈ l, x.1 = a → x.2.1 ≤ c.2.1 := by
  intro x hx hxa
  unfold bestAt at h
  have hm : x ∈ grp3 l a := List.mem_filter.2 ⟨hx, decide_eq_true hxa⟩
  split at h
  · rename_i hg
    rw [hg] at hm; cases hm
  · rename_i y r hg
    obtain rfl := Option.some.inj h
    rw [hg] at hm
    exact best3_ge y r x hm
theorem sorted_eq : ∀ {m : List P3}, m.Pairwise (fun a b => a.1 < b.1) → ∀ {c d : P3}, c ∈ m → d ∈ m → c.1 = d.1 → c = d
  | [], _, _, _, h, _, _ => by cases h
  | x :: r, hs, c, d, hc, hd, e => by
    obtain ⟨h1, h2⟩ := List.pairwise_cons.1 hs
    rcases List.mem_cons.1 hc with k1 | k1
    · rcases List.mem_cons.1 hd with k2 | k2
      · rw [k1, k2]
      · have := h1 _ k2; rw [k1] at e; omega
    · rcases List.mem_cons.1 hd with k2 | k2
      · have := h1 _ k1; rw [k2] at e; omega
      · exact sorted_eq h2 k1 k2 e
/-- What rises, merged again, is itself. -/
theorem merge_same {l m : List P3} (hm : m.Pairwise (fun a b => a.1 < b.1)) (h : ∀ x, x ∈ l ↔ x ∈ m) : mergeM l = m := by
  refine merge_uniq (sorted_merge l) hm fun c => ?_
  rw [mem_merge]
  constructor
  · intro hc
    exact (h c).1 (bestAt_mem hc).1
  · intro hc
    obtain ⟨d, hd⟩ := bestAt_some (l := l) (a := c.1) ⟨c, (h c).2 hc, rfl⟩
    have hdm := bestAt_mem hd
    rw [hd, sorted_eq hm ((h d).1 hdm.1) hc hdm.2]
def findM (l : List C3) (a : Int) : Option C3 := l.find? fun z => decide (z.1 = a)
theorem findM_none {l : List C3} {a : Int} {n : Nat} (hn : n = l.length) (h : ∀ (j : Nat) (z : C3), j < n → l[j]? = some z → z.1 ≠ a) : findM l a = none := by
  unfold findM
  rw [List.find?_eq_none]
  intro x hx
  obtain ⟨j, hj, rfl⟩ := List.mem_iff_getElem.1 hx
  simpa using h j _ (by omega) (List.getElem?_eq_getElem hj)
theorem findM_some : ∀ {l : List C3} {a : Int} {k : Nat} {z : C3}, l[k]? = some z → z.1 = a → (∀ (j : Nat) (y : C3), j < k → l[j]? = some y → y.1 ≠ a) → findM l a = some z
  | [], _, _, _, h, _, _ => by simp at h
  | x :: r, a, 0, z, h, hz, _ => by
    obtain rfl : x = z := by simpa using h
    unfold findM
    rw [List.find?_cons_of_pos (by simpa using hz)]
  | x :: r, a, k + 1, z, h, hz, hj => by
    have h0 := hj 0 x (by omega) rfl
    unfold findM
    rw [List.find?_cons_of_neg (by simpa using h0)]
    exact findM_some (k := k) (by simpa using h) hz fun j y hjk hy => hj (j + 1) y (by omega) (by simpa using hy)
/-- What was found is this cell. -/
def IsFound (l : List C3) (a : Int) (z : C4) : Prop := ∀ y, findM l a = some y → y = z.c3
abbrev encV (z : C4) : Value := .agg #[.int .i64 z.at_, .int .i64 z.ep, .slice z.A z.by_.length z.c]
set_option maxHeartbeats 4000000 in
theorem first_calls (l : List C3) (A : Option Addr) (c : Nat) (a : Int) (w : World) (hC : KC.C w A l.length l) :
    Calls Try.prog 12 #[.slice A l.length c, .int .i64 a] w fun e w' => ∃ z, e = .returned (.tuple #[encV z, .bool (findM l a).isSome]) ∧ IsFound l a z ∧ RdB w' z ∧ Below w.heap.size w w' := by
  have HC := Lib.hid hC
  have hlm : l.length ≤ 9223372036854775807 := hC.2.1
  obtain ⟨n, hnl⟩ : ∃ n, n = l.length := ⟨_, rfl⟩
  rw [← hnl] at HC hlm ⊢
  have HN := Lib.hid hnl
  clear hC hnl
  have hB := (Below.refl w.heap.size w).alloc (Nat.le_refl _) (.cells #[.int .i64 0, .int .i64 0, .slice none 0 0] 28)
  have hG := (MapKept.heap_alloc w (.cells #[.int .i64 0, .int .i64 0, .slice none 0 0] 28)).1
  go_enter Try.func12, Try.ntmps12
  go_wp2
  generalize w.alloc (.cells #[.int .i64 0, .int .i64 0, .slice none 0 0] 28) = W at *
  have HB := Lib.hid hB
  have HG := Lib.hid hG
  clear hB hG
  go_loopw [6] (fun i wx => ∃ (k : Nat), k ≤ n ∧ i = .int .i64 k ∧ wx = W ∧ ∀ (j : Nat) (z : C3), j < k → l[j]? = some z → z.1 ≠ a) (fun i _ => n - (intOf i).toNat)
  case atStart => exact ⟨0, Nat.zero_le _, rfl, rfl, fun j z h => absurd h (Nat.not_lt_zero _)⟩
  case round =>
    obtain ⟨k, hk, rfl, rfl, hs⟩ := hrel
    by_cases hlt : k < n
    · have hlti : (k : Int) < (n : Int) := by omega
      have hk0 : (0 : Int) ≤ (k : Int) := by omega
      obtain ⟨ad, z, rfl, hz, hr, a0, a1, a2⟩ := at_KC HC.out k hlt
      have HR := Lib.hid hr
      have HZ := Lib.hid hz
      have HS := Lib.hid hs
      have a0 := cell_step (grown_of_below HB.out) a0 (by simp)
      have a1 := cell_step (grown_of_below HB.out) a1 (by simp)
      have a2 := cell_step (grown_of_below HB.out) a2 (by simp)
      clear hr hz hs
      by_cases he : z.at_ = a
      · have q1 := HG.out
        have f0 := blk_frozen q1 0
        have f1 := blk_frozen q1 1
        have f2 := blk_frozen q1 2
        have y0 := (blk_cell q1 0).trans rfl
        have y1 := (blk_cell q1 1).trans rfl
        have y2 := (blk_cell q1 2).trans rfl
        clear q1
        obtain ⟨za, ze, zb, zA, zc⟩ := z
        simp only at he a0 a1 a2
        subst he
        go_wp2
        have b3 := below_set' (below_set' (below_set' HB.out (g := w.heap.size) (Nat.le_refl _) 0 (.int .i64 za)) (g := w.heap.size) (Nat.le_refl _) 1 (.int .i64 ze)) (g := w.heap.size) (Nat.le_refl _) 2 (.slice zA zb.length zc)
        have b5 := blk_put (cs' := #[.int .i64 za, .int .i64 ze, .slice zA zb.length zc]) (blk_put (blk_put HG.out 0 (.int .i64 za) rfl) 1 (.int .i64 ze) rfl) 2 (.slice zA zb.length zc) (by simp)
        refine bodyPost_ret (results_ct rfl _ _ w.heap.size 28 #[.int .i64 za, .int .i64 ze, .slice zA zb.length zc] (0, 0) _ rfl b5 Try.underlying28 rfl (by kernel_rfl)) rfl ?_
        have hF := findM_some HZ.out rfl HS.out
        exact ⟨⟨za, ze, zb, zA, zc⟩, by rw [show findM l za = _ from hF]; rfl, fun y hy => (Option.some.inj (hF.symm.trans hy)).symm, HR.out.below b3, b3⟩
      · go_wp2
        go_roundw
        case rel =>
          refine ⟨k + 1, by omega, by go_num, trivial, fun j y hj hy => ?_⟩
          by_cases hjk : j = k
          · subst hjk
            rw [HZ.out] at hy
            obtain rfl := Option.some.inj hy
            exact he
          · exact HS.out j y (by omega) hy
        case measure => simp [intOf]; omega
    · have hlti : (n : Int) ≤ (k : Int) := by omega
      have HS := Lib.hid hs
      clear hs
      have q1 := HG.out
      have f0 := blk_frozen q1 0
      have f1 := blk_frozen q1 1
      have f2 := blk_frozen q1 2
      have y0 := (blk_cell q1 0).trans rfl
      have y1 := (blk_cell q1 1).trans rfl
      have y2 := (blk_cell q1 2).trans rfl
      clear q1
      go_wp2
      have b3 := below_set' (below_set' (below_set' HB.out (g := w.heap.size) (Nat.le_refl _) 0 (.int .i64 0)) (g := w.heap.size) (Nat.le_refl _) 1 (.int .i64 0)) (g := w.heap.size) (Nat.le_refl _) 2 (.slice none 0 0)
      have b5 := blk_put (cs' := #[.int .i64 0, .int .i64 0, .slice none 0 0]) (blk_put (blk_put HG.out 0 (.int .i64 0) rfl) 1 (.int .i64 0) rfl) 2 (.slice none 0 0) (by simp)
      refine bodyPost_ret (results_ct rfl _ _ w.heap.size 28 #[.int .i64 0, .int .i64 0, .slice none 0 0] (0, 0) _ rfl b5 Try.underlying28 rfl (by kernel_rfl)) rfl ?_
      have hF := findM_none (n := n) (a := a) HN.out fun j z hj => HS.out j z (by omega)
      exact ⟨⟨0, 0, [], none, 0⟩, by rw [hF]; rfl, fun y hy => (by rw [hF] at hy; cases hy), ⟨Nat.le_refl _, ⟨rfl, Nat.zero_le _, fun h => absurd h (Nat.lt_irrefl 0)⟩⟩, b3⟩
end Go.Proofs.Ytnnahbmhjjamcaa.Quor
