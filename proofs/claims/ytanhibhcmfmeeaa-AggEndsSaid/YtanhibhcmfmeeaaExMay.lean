import Derived.Test.YtanhibhcmfmeeaaExP
import Derived.Test.YtanhibhcmfmeeaaFr
import Derived.Test.YtanhibhcmfmeeaaCut
import Derived.Test.YtanhibhcmfmeeaaProg
import Derived.Deep.DeepCutAuto
import Derived.Deep.CutBlock
import Derived.OwnWalk
import Derived.StillTailTactics
import Derived.RegionTactic
import Derived.BigRegion
import Derived.Lib.Hide
/- Expressions in memory; kids, may, May. -/
namespace Go.Proofs.Ytanhibhcmfmeeaa.Ex
open Go.RowKit Go.Proofs.YtanhibhcmfmeeaaW.PrintWords Go.Proofs.Ytanhibhcmfmeeaa.Fr
mutual
/-- The operands of an expression, as they are read. -/
def KidsR (w : World) : List Ex → Option Addr → Prop
  | [], _ => True
  | k :: r, A => ∃ ad, A = some ad ∧ KidR w k ad ∧ KidsR w r (some (ad.add 3))
def KidR (w : World) : Ex → Addr → Prop
  | .mk op n ks, ad => w.cell? ad = some (.int .i64 op) ∧ w.cell? (ad.add 1) = some (.int .i64 n) ∧ W64 op ∧ W64 n ∧ ks.length ≤ 4611686018427387904 ∧ ∃ A c, w.cell? (ad.add 2) = some (.slice A ks.length c) ∧ KidsR w ks A
end
mutual
theorem KidsR.below {w w' : World} (hb : Below w.heap.size w w') : ∀ (l : List Ex) (A : Option Addr), KidsR w l A → KidsR w' l A
  | [], _, _ => by unfold KidsR; trivial
  | k :: r, A, h => by
    unfold KidsR at h ⊢
    obtain ⟨ad, h1, h2, h3⟩ := h
    exact ⟨ad, h1, KidR.below hb k ad h2, KidsR.below hb r _ h3⟩
theorem KidR.below {w w' : World} (hb : Below w.heap.size w w') : ∀ (x : Ex) (ad : Addr), KidR w x ad → KidR w' x ad
  | .mk op n ks, ad, h => by
    unfold KidR at h ⊢
    obtain ⟨h1, h2, h3, h4, h5, A, c, h6, h7⟩ := h
    exact ⟨pw_cell_below hb h1, pw_cell_below hb h2, h3, h4, h5, A, c, pw_cell_below hb h6, KidsR.below hb ks A h7⟩
end
theorem add_add (ad : Addr) (i j : Nat) : (ad.add i).add j = ad.add (i + j) := by
  unfold Addr.add
  by_cases h1 : i = 0 <;> by_cases h2 : j = 0 <;> simp [h1, h2, Nat.add_assoc]
theorem kidAt {w : World} : ∀ {l : List Ex} {A : Option Addr}, KidsR w l A → ∀ i x, l[i]? = some x → ∃ ad, A = some ad ∧ KidR w x (ad.add (i * 3))
  | [], _, _, i, x, hx => by simp at hx
  | k :: r, A, h, 0, x, hx => by
    unfold KidsR at h
    obtain ⟨ad, h1, h2, _⟩ := h
    obtain rfl : k = x := by simpa using hx
    refine ⟨ad, h1, ?_⟩
    rw [Nat.zero_mul]
    have : ad.add 0 = ad := by unfold Addr.add; simp
    rwa [this]
  | k :: r, A, h, i + 1, x, hx => by
    unfold KidsR at h
    obtain ⟨ad, h1, _, h3⟩ := h
    obtain ⟨ad', h4, h5⟩ := kidAt h3 i x (by simpa using hx)
    injection h4 with h4
    subst h4
    refine ⟨ad, h1, ?_⟩
    rwa [add_add, show 3 + i * 3 = (i + 1) * 3 by omega] at h5
/-- An expression that is handed over by value. -/
structure ExV (w : World) (x : Ex) (v : Value) : Prop where
  out : ∃ A c, v = .agg #[.int .i64 x.op, .int .i64 x.n, .slice A x.kids.length c] ∧ W64 x.op ∧ W64 x.n ∧ x.kids.length ≤ 4611686018427387904 ∧ KidsR w x.kids A
theorem ExV.below {w w' : World} {x : Ex} {v : Value} (h : ExV w x v) (hb : Below w.heap.size w w') : ExV w' x v := by
  obtain ⟨A, c, h1, h2, h3, h4, h5⟩ := h.out
  exact ⟨A, c, h1, h2, h3, h4, h5.below hb⟩
theorem add_field' (ad : Addr) (k j : Nat) (hj : 0 < j) : (ad.add k).add j = ⟨(ad.add k).block, (ad.add k).off + j, none⟩ := by
  conv => lhs; unfold Addr.add
  rw [if_neg (by omega)]
  rfl
/-- An operand, its cells as the walk spells them. -/
theorem kid_cells {w : World} {l : List Ex} {A : Option Addr} (h : KidsR w l A) (i : Nat) (hi : i < l.length) : ∃ ad x B c, A = some ad ∧ l[i]? = some x ∧ w.cell? (ad.add (i * 3)) = some (.int .i64 x.op) ∧ w.cell? ⟨(ad.add (i * 3)).block, (ad.add (i * 3)).off + 1, none⟩ = some (.int .i64 x.n) ∧
    w.cell? ⟨(ad.add (i * 3)).block, (ad.add (i * 3)).off + 2, none⟩ = some (.slice B x.kids.length c) ∧ ExV w x (.agg #[.int .i64 x.op, .int .i64 x.n, .slice B x.kids.length c]) ∧ x ∈ l := by
  obtain ⟨ad, hA, hk⟩ := kidAt h i _ (List.getElem?_eq_getElem hi)
  generalize hx : l[i] = x at hk
  obtain ⟨op, n, ks⟩ := x
  unfold KidR at hk
  obtain ⟨h1, h2, h3, h4, h5, B, c, h6, h7⟩ := hk
  refine ⟨ad, .mk op n ks, B, c, hA, by rw [List.getElem?_eq_getElem hi, hx], h1, ?_, ?_, ⟨B, c, rfl, h3, h4, h5, h7⟩, by rw [← hx]; exact List.getElem_mem hi⟩
  · rw [← add_field' _ _ _ (by decide)]; exact h2
  · rw [← add_field' _ _ _ (by decide)]; exact h6
set_option maxHeartbeats 4000000 in
theorem kids_calls (op : Int) (w : World) : Calls Try.prog 48 #[.int .i64 op] w fun e w' => e = .returned (.tuple #[.int .i64 (kidsN op), .bool (kidsOk op)]) ∧ Below w.heap.size w w' := by
  by_cases h : 1 ≤ op ∧ op < 17
  · have e2 : kidsOk op = true := decide_eq_true h
    obtain ⟨h1, h2⟩ := h
    have hc : ∀ W : World, (W.alloc (.cells #[.int .i64 0, .int .i64 0, .int .i64 0, .int .i64 0, .int .i64 0, .int .i64 0, .int .i64 2, .int .i64 2, .int .i64 2, .int .i64 2, .int .i64 2, .int .i64 2, .int .i64 2, .int .i64 3, .int .i64 1, .int .i64 2, .int .i64 2] 134)).cell? ⟨W.heap.size, op.toNat, none⟩ = some (.int .i64 (kidsN op)) := fun W => by
      have hk : kidsN op = kidsT.getD op.toNat 0 := if_pos ⟨h1, h2⟩
      have hh := (Go.MapKept.heap_alloc W (.cells #[.int .i64 0, .int .i64 0, .int .i64 0, .int .i64 0, .int .i64 0, .int .i64 0, .int .i64 2, .int .i64 2, .int .i64 2, .int .i64 2, .int .i64 2, .int .i64 2, .int .i64 2, .int .i64 3, .int .i64 1, .int .i64 2, .int .i64 2] 134)).1
      rw [hk]
      simp only [World.cell?, hh]
      have : op.toNat < 17 := by omega
      generalize op.toNat = k at this
      have : k = 0 ∨ k = 1 ∨ k = 2 ∨ k = 3 ∨ k = 4 ∨ k = 5 ∨ k = 6 ∨ k = 7 ∨ k = 8 ∨ k = 9 ∨ k = 10 ∨ k = 11 ∨ k = 12 ∨ k = 13 ∨ k = 14 ∨ k = 15 ∨ k = 16 := by omega
      rcases this with rfl | rfl | rfl | rfl | rfl | rfl | rfl | rfl | rfl | rfl | rfl | rfl | rfl | rfl | rfl | rfl | rfl <;> rfl
    rw [e2]
    clear e2
    generalize kidsN op = m at hc ⊢
    have h3 : (0 : Int) ≤ op := by omega
    go_enter Try.func48, Try.ntmps48
    go_wp2
    go_ret2
    exact ⟨rfl, below_alloc (Below.refl _ _) _⟩
  · have e1 : kidsN op = 0 := if_neg h
    have e2 : kidsOk op = false := decide_eq_false h
    rw [e1, e2]
    by_cases h1 : op < 1
    · clear h e1 e2
      go_enter Try.func48, Try.ntmps48
      go_wp2
      go_ret2
      exact ⟨rfl, below_alloc (Below.refl _ _) _⟩
    · have h2 : 17 ≤ op := by omega
      clear h e1 e2
      go_enter Try.func48, Try.ntmps48
      go_wp2
      go_ret2
      exact ⟨rfl, below_alloc (Below.refl _ _) _⟩
end Go.Proofs.Ytanhibhcmfmeeaa.Ex
