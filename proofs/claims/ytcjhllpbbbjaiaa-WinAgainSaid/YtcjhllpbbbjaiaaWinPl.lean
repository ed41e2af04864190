import Derived.Test.YtcjhllpbbbjaiaaWinColl
import Derived.Test.YtcjhllpbbbjaiaaWinSort
import Derived.Test.YtcjhllpbbbjaiaaWAt
/- The walk of places. -/
namespace Go.Proofs.Ytcjhllpbbbjaiaa.Win
open Go.RowKit Go.Maps Go.Proofs.YtcjhllpbbbjaiaaW.PrintWords Go.Proofs.YtcjhllpbbbjaiaaW.PrintMore Go.Proofs.Ytcjhllpbbbjaiaa.Cut
structure PP where
  p : P2
structure CC where
  c : Int
theorem val2_inj {p q : P2} (e : val2 p = val2 q) : p = q := by
  obtain ⟨a, b⟩ := p
  obtain ⟨d, e1⟩ := q
  simp only [val2, mkP, Value.agg.injEq, Array.mk.injEq, List.cons.injEq, Value.int.injEq, true_and, and_true] at e
  obtain ⟨rfl, rfl⟩ := e
  rfl
theorem keyOf_inv2 {v : Value} {l : Lit} (h : keyOf Try.prog 54 v = some l) : ∃ p, v = val2 p ∧ l = kl2 p ∧ W2 p := by
  obtain ⟨a, b, h1, h2, h3, h4⟩ := keyOf_inv h
  exact ⟨(a, b), h1, h2, h3, h4⟩
theorem PE_inv {v : Value} {z : DataW Unit × List MemPlace} (h : PE v = some z) : ∃ c, v = .int .i64 c := by
  obtain ⟨a, ha, _⟩ := plainElem_int_inv Try.underlying2 h
  exact ⟨a, ha⟩
theorem row_grown {w w1 : World} {base n : Nat} {v : Value} {xs : List Value} {row : Option Nat} (h : w.ownsRow base 54 2 v n xs) (hg : w.grownBy w1 row) (hne : row = none ∨ row ≠ v.ownBlock) : w1.ownsRow base 54 2 v n xs :=
  own_move h fun k hk => hg.block k (h.lt k hk).2 fun e => by
    rcases hne with h1 | h1
    · rw [h1] at e; cases e
    · exact h1 (by rw [← e, hk])
theorem row_ne_map {w : World} {base n m b : Nat} {v : Value} {xs : List Value} {D : DataW Unit} (h : w.ownsRow base 54 2 v n xs) (hm : w.ownsMap Try.prog 54 PE b m D) : some b ≠ v.ownBlock := by
  obtain ⟨_, _, hit, _⟩ := hm
  rcases h.2 with ⟨rfl, _⟩ | ⟨g, cap, cur, rfl, _, hb, _⟩
  · simp [Value.ownBlock]
  · intro e1
    have : b = g := by simpa [Value.ownBlock] using e1
    subst this
    rw [hit] at hb
    cases hb
theorem row_ne_iter {w : World} {base n m b r : Nat} {v : Value} {xs : List Value} {D : DataW Unit} {left : Lit → Bool} {cnt : Nat} (h : w.ownsRow base 54 2 v n xs) (hm : w.ranges Try.prog 54 PE b r m D left cnt) : some r ≠ v.ownBlock := by
  obtain ⟨_, _, _, _, _, _, _, _, _, hit, _⟩ := hm
  rcases h.2 with ⟨rfl, _⟩ | ⟨g, cap, cur, rfl, _, hb, _⟩
  · simp [Value.ownBlock]
  · intro e1
    have : r = g := by simpa [Value.ownBlock] using e1
    subst this
    rw [hit] at hb
    cases hb
def RelP (w wx : World) (m : St) (b r : Nat) (D : DataW Unit) (v : Value) (left : Lit → Bool) (cnt : Nat) (out : List P2) : Prop :=
  wx.ranges Try.prog 54 PE b r m.length D left cnt ∧ cnt + out.length ≤ m.length ∧ wx.ownsRow w.heap.size 54 2 v out.length (out.flatMap encP) ∧ Coll m left out ∧ Below w.heap.size w wx
theorem infoPl : (Try.prog.info? 54).map (fun i => (i.zero, i.size, i.bytes)) = some (some (.agg #[.int .i64 0, .int .i64 0]), 2, 16) := by kernel_rfl
theorem cells_alloc2 (w : World) (a b : Int) (t : TypeId) : let W := w.alloc (.cells #[.int .i64 a, .int .i64 b] t)
    W.cell? ⟨w.heap.size, 0, none⟩ = some (.int .i64 a) ∧ W.cell? ⟨w.heap.size, 1, none⟩ = some (.int .i64 b) := by simp
set_option maxRecDepth 100000 in
set_option maxHeartbeats 4000000 in
theorem places_calls {w : World} {s : Nat} {room size : Int} {b : Nat} {m : St} (h : Own w s room size b m) :
    Calls Try.prog 19 #[.pointer (some ⟨s, 0, none⟩)] w fun e w' => ∃ v, e = .returned v ∧ w'.ownsRow w.heap.size 54 2 v (places m).length ((places m).flatMap encP) ∧ Below w.heap.size w w' := by
  obtain ⟨c0, c1, c2⟩ := h.cells
  obtain ⟨D, hown, hA⟩ := h.map
  have HA := Lib.hid hA
  have HS := Lib.hid (And.intro h.sorted (fun x hx => (h.wf x hx).1))
  have hml : m.length ≤ 1000000 := by have h1 := h.fits; have h2 := h.rng; omega
  have hB : Below w.heap.size w w := Below.refl _ _
  clear h hA
  go_enter Try.func19, Try.ntmps19
  go_wp2_with (first
    | (at_range; refine wpList_range_own _ rfl _ 50 rfl 54 2 keyedP Try.underlying50 PE b m.length D rfl hown ?_; intro w0 hrg0 hg0 hs0)
    | go_in)
  go_frame
  have hB0 := hB.grown hg0 hB.size (fun j hj => by cases hj)
  obtain ⟨r, hr⟩ : ∃ r, w.heap.size = r := ⟨_, rfl⟩
  have hBs : b < w.heap.size := hown.lt
  rw [hr] at hrg0 ⊢
  go_loopw [3] (fun v wx => ∃ (left : Lit → Bool) (cnt : Nat) (out : List P2), RelP w wx m b r D v left cnt out) (fun _ wx => wx.rangeLeft b r)
  case atStart => exact ⟨_, _, [], hrg0, by have := hown.size_le; simpa using this, ⟨rfl, .inl ⟨rfl, rfl⟩⟩, Coll.start HA.out, hB0⟩
  case round =>
    clear hg0 hs0 hrg0 hown hB0 hB
    obtain ⟨left, cnt, out, hrel⟩ := hrel
    have HR := Lib.hid hrel
    have hrg := hrel.1
    clear hrel
    go_wp2_with (first
      | (at_next; refine wpList_next_ranges _ rfl _ rfl 54 keyedP PE (fun x : PP => val2 x.p) (fun x : CC => .int .i64 x.c) (fun _ _ h => by obtain ⟨x, hx, _⟩ := keyOf_inv2 h; exact ⟨⟨x⟩, hx⟩) (fun _ _ h => by obtain ⟨x, hx⟩ := PE_inv h; exact ⟨⟨x⟩, hx⟩) b r m.length D left cnt rfl hrg ?_ ?_)
      | go_in)
    · intro hc0 hl0
      obtain ⟨hrg', hcn, hrow, hcoll, hb⟩ := HR.out
      have HX := Lib.hid (And.intro (And.intro hcoll hl0) (And.intro hb hrow))
      have hon : out.length ≤ 1000000 := by omega
      clear hrg hrg' hcn hrow hcoll hb HR hl0
      go_wp2_with (go_at_call 20; refine (sort_calls u3 out _ w.heap.size HX.out.2.2 hon).mono ?_; rintro e w' ⟨rfl, out', hp, hs, hown', hg'⟩)
      have he := HX.out.1.1.done HX.out.1.2 HS.out.1 HS.out.2 hp hs
      subst he
      have hfin := HX.out.2.1.grown hg' HX.out.2.1.size (fun j hj => (HX.out.2.2.lt j hj).1)
      have HF := Lib.hid (And.intro hown' hfin)
      clear hp hs hown' hg' hfin
      go_ret
      exact ⟨u3, by simp, HF.out.1, HF.out.2⟩
    · intro ⟨p⟩ ⟨c0⟩ kl y yp w1 cnt1 hkey hlk hv hat hrg1 hlt1 hg1 hs1 hen
      try simp only at hkey hv hen
      obtain ⟨p', e1, rfl, hp⟩ := keyOf_inv2 hkey
      obtain rfl := val2_inj e1
      have hlo : (look m p).isSome = true := by
        rw [← (HA.out.2.2 p hp).2]
        exact has_true_of_atKey hat
      obtain ⟨hrg, hcn, hrow, hcoll, hb⟩ := HR.out
      have hst := hcoll.step hp hlo hlk
      have hrow1 := row_grown hrow hg1 (.inr (row_ne_iter hrow hrg))
      have hb1 := hb.grown hg1 hb.size (fun j hj => by cases hj; rw [hr]; exact Nat.le_refl _)
      have HX := Lib.hid (And.intro (And.intro hrg1 (And.intro hlt1 hrg.left_eq)) (And.intro (And.intro hst hrow1) (And.intro hb1 hcn)))
      clear hrg hcn hrow hcoll hb hst hrow1 hb1 hrg1 hlt1 hg1 hs1 hkey hlk hat e1 HR hp hlo
      obtain ⟨x1, x2⟩ := p
      simp only [val2, mkP] at hen ⊢
      go_upto_region 7 with (fail)
      have f0 := cells_alloc2 w1 x1 x2 54
      have g0 := row_grown HX.out.2.1.2 (World.grownBy_alloc w1 (.cells #[.int .i64 x1, .int .i64 x2] 54) none) (.inl rfl)
      have g1 := HX.out.2.2.1.alloc HX.out.2.2.1.size (.cells #[.int .i64 x1, .int .i64 x2] 54)
      have g2 := HX.out.1.1.alloc (.cells #[.int .i64 x1, .int .i64 x2] 54)
      generalize w1.alloc (.cells #[.int .i64 x1, .int .i64 x2] 54) = W1 at f0 g0 g1 g2 ⊢
      obtain ⟨f0, f1⟩ := f0
      have G0 := Lib.hid g0; have G1 := Lib.hid g1; have G2 := Lib.hid g2
      have HX2 := Lib.hid (And.intro HX.out.1.2 (And.intro HX.out.2.1.1 HX.out.2.2.2))
      have hl16 : (out.length + 1) * 16 ≤ 140737488355328 := by have := HX.out.2.2.2; omega
      clear g0 g1 g2 HX
      go_wp2_with (first
        | ((with_reducible refine gate_builtin (b := .append) (xs := #[.tmp 16, .tmp 18]) rfl ?_); at_builtin; refine print_append_cells w.heap.size rfl (.tmp 16) (.tmp 18) 56 54 (.agg #[.int .i64 0, .int .i64 0]) 2 16 rfl Try.underlying56 infoPl rfl (by decide) (by decide) u3 out.length (out.flatMap encP) [.int .i64 x1, .int .i64 x2] rfl rfl rfl (encP_one (x1, x2)) G0.out G1.out G1.out.size hl16 ?_; intro v1 w3 hown3 hb3 hg3 hat3)
        | go_in)
      have hc2 := HX2.out.2.1
      have hr2 := G2.out.kept hg3 (row_ne_map G0.out G2.out.owns) (row_ne_iter G0.out G2.out)
      refine ⟨⟨_, cnt1, out ++ [(x1, x2)], hr2, ?_, ?_, hc2, hb3⟩, ?_⟩
      · have h1 := HX2.out.2.2; have h2 := HX2.out.1.1; rw [List.length_append, List.length_singleton]; omega
      · rw [List.length_append, List.length_singleton, List.flatMap_append]; exact hown3
      · rw [hr2.left_eq, HX2.out.1.2]; exact HX2.out.1.1
end Go.Proofs.Ytcjhllpbbbjaiaa.Win
