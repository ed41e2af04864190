import Derived.Test.YtanhibhcmfmeeaaExVal2
import Derived.Defers
import Derived.Recover
/- The walk of value, whole; of Eval. -/
namespace Go.Proofs.Ytanhibhcmfmeeaa.Ex
open Go.RowKit Go.Proofs.YtanhibhcmfmeeaaW.PrintWords Go.Proofs.Ytanhibhcmfmeeaa.Cut Go.Proofs.Ytanhibhcmfmeeaa.Fr
theorem len2 {α : Type} {l : List α} (h : l.length = 2) : ∃ a b, l = [a, b] := by
  obtain ⟨a, r, rfl⟩ := List.exists_cons_of_length_pos (l := l) (by omega)
  obtain ⟨b, rfl⟩ := List.length_eq_one_iff.1 (show r.length = 1 by simpa using h)
  exact ⟨a, b, rfl⟩
theorem len3 {α : Type} {l : List α} (h : l.length = 3) : ∃ a b c, l = [a, b, c] := by
  obtain ⟨a, r, rfl⟩ := List.exists_cons_of_length_pos (l := l) (by omega)
  obtain ⟨b, c, rfl⟩ := len2 (show r.length = 2 by simpa using h)
  exact ⟨a, b, c, rfl⟩
theorem value_calls (q : Ask) : ∀ (N : Nat) (x : Ex), SizeOf.sizeOf x ≤ N → Fit x → ValP q x := by
  intro N
  induction N with
  | zero => intro x hx; obtain ⟨op, n, ks⟩ := x; simp at hx
  | succ N ih =>
    intro x hx hf
    obtain ⟨op, n, ks⟩ := x
    obtain ⟨h1, h2, h3⟩ := hf.ok
    have ih : ∀ k ∈ ks, ValP q k := fun k hk => ih k (by have := size_kid (op := op) (n := n) hk; omega) (h3 k hk)
    have h0 : 1 ≤ op ∧ op < 17 := of_decide_eq_true h1
    have e : kidsN op = kidsT.getD op.toNat 0 := if_pos h0
    rw [e] at h2
    clear e hx hf h3 h1
    intro v w hv
    have hc : op = 1 ∨ op = 2 ∨ op = 3 ∨ op = 4 ∨ op = 5 ∨ op = 6 ∨ op = 7 ∨ op = 8 ∨ op = 9 ∨ op = 10 ∨ op = 11 ∨ op = 12 ∨ op = 13 ∨ op = 14 ∨ op = 15 ∨ op = 16 := by omega
    have key : ∀ k : Nat, kidsT.getD op.toNat 0 = k → ks.length = k := fun k hk => by rw [hk] at h2; omega
    have leaf : ks.length = 0 → (op = 1 ∨ op = 2 ∨ op = 3 ∨ op = 4 ∨ op = 5) → Calls Try.prog 35 #[askV q, v] w fun e w' => e = endV (valF q (.mk op n ks)) ∧ Below w.heap.size w w' := fun hl ho => by
      obtain rfl := List.eq_nil_of_length_eq_zero hl
      obtain ⟨A, c, rfl, _⟩ := hv.out
      exact val_leaf q op n A c w ho
    have two : ks.length = 2 → isTwo op → Calls Try.prog 35 #[askV q, v] w fun e w' => e = endV (valF q (.mk op n ks)) ∧ Below w.heap.size w w' := fun hl ho => by
      obtain ⟨a, b, rfl⟩ := len2 hl
      have h := val_two q op n ho a b (ih a (by simp)) (ih b (by simp)) v w hv
      unfold valF
      exact h
    unfold isTwo at two
    rcases hc with rfl | rfl | rfl | rfl | rfl | rfl | rfl | rfl | rfl | rfl | rfl | rfl | rfl | rfl | rfl | rfl
    · exact leaf (key 0 (by decide)) (by decide)
    · exact leaf (key 0 (by decide)) (by decide)
    · exact leaf (key 0 (by decide)) (by decide)
    · exact leaf (key 0 (by decide)) (by decide)
    · exact leaf (key 0 (by decide)) (by decide)
    · exact two (key 2 (by decide)) (by decide)
    · exact two (key 2 (by decide)) (by decide)
    · exact two (key 2 (by decide)) (by decide)
    · exact two (key 2 (by decide)) (by decide)
    · exact two (key 2 (by decide)) (by decide)
    · exact two (key 2 (by decide)) (by decide)
    · exact two (key 2 (by decide)) (by decide)
    · obtain ⟨a, b, d, rfl⟩ := len3 (key 3 (by decide))
      have h := val_if q n a b d (ih a (by simp)) (ih b (by simp)) (ih d (by simp)) v w hv
      unfold valF
      exact h
    · obtain ⟨a, rfl⟩ := List.length_eq_one_iff.1 (key 1 (by decide))
      have h := val_neg q n a (ih a (by simp)) v w hv
      unfold valF
      exact h
    · exact two (key 2 (by decide)) (by decide)
    · exact two (key 2 (by decide)) (by decide)
theorem value_any (q : Ask) (x : Ex) (h : mayE x = true) : ValP q x := value_calls q _ x (Nat.le_refl _) (fit_may h)
end Go.Proofs.Ytanhibhcmfmeeaa.Ex
