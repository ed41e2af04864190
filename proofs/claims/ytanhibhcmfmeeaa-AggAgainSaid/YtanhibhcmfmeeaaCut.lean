import Derived.Test.YtanhibhcmfmeeaaWWords
/- Cuts of a list that is read, under names that the walk doesn't look into. -/
namespace Go.Proofs.Ytanhibhcmfmeeaa.Cut
open Go.RowKit Go.Proofs.YtanhibhcmfmeeaaW.PrintWords
theorem tail_cut {P : Program} {α : Type} {d : Kd α} (t e : TypeId) (kl : IntKind) {z : Option Value} {size bytes : Nat} (ht : P.underlying t = some (.slice e)) (hinfo : (P.info? e).map (fun i => (i.zero, i.size, i.bytes)) = some (z, size, bytes)) (hds : d.sz = size)
    {w : World} {A : Option Addr} {c : Nat} {xs : List α} (hC : d.C w A xs.length xs) (hc : xs.length ≤ c) (j : Int) (m : Nat) (hj : j = m) (hm : m ≤ xs.length) :
    ∃ (A' : Option Addr) (R : List α), R = xs.drop m ∧ d.C w A' R.length R ∧ R.length ≤ c - m ∧ ∀ W : World, (Instr.slice t (.slice A xs.length c) (some (.int kl j)) none none).run P W = .ok (.slice A' R.length (c - m)) W := by
  obtain ⟨i0, hi, h1⟩ := Option.map_eq_some_iff.1 hinfo
  simp only [Prod.mk.injEq] at h1
  refine ⟨_, _, rfl, Kd.C_drop (m := m) hC hm hc, by rw [List.length_drop]; omega, fun W => ?_⟩
  have h := cut_from (P := P) t e kl ht hi size h1.2.1 A xs.length c j (by omega) (by omega) W
  rw [h, hj, hds, List.length_drop]
  rfl
theorem head_cut {P : Program} {α : Type} {d : Kd α} (t e : TypeId) (kh : IntKind) {z : Option Value} {size bytes : Nat} (ht : P.underlying t = some (.slice e)) (hinfo : (P.info? e).map (fun i => (i.zero, i.size, i.bytes)) = some (z, size, bytes))
    {w : World} {A : Option Addr} {c : Nat} {xs : List α} (hC : d.C w A xs.length xs) (hc : xs.length ≤ c) (j : Int) (m : Nat) (hj : j = m) (hm : m ≤ xs.length) :
    ∃ R : List α, R = xs.take m ∧ d.C w A R.length R ∧ R.length ≤ c ∧ ∀ W : World, (Instr.slice t (.slice A xs.length c) none (some (.int kh j)) none).run P W = .ok (.slice A R.length c) W := by
  obtain ⟨i0, hi, h1⟩ := Option.map_eq_some_iff.1 hinfo
  refine ⟨_, rfl, Kd.C_take hC hm, by rw [List.length_take]; omega, fun W => ?_⟩
  have h := cut_to (P := P) t e kh ht hi A xs.length c j (by omega) (by omega) hc W
  have e1 : (xs.take m).length = m := by rw [List.length_take]; omega
  rw [h, hj, e1]
  rfl
/-- A row of the call's own that isn't empty: where it lies. -/
theorem own_row {α : Type} {d : Kd α} {e base n c : Nat} {w : World} {ok : Nat → Prop} {A : Option Addr} {xs : List α} (h : d.R e w base ok (.slice A n c) xs) (hn : 0 < xs.length) : ∃ g, A = some ⟨g, 0, none⟩ ∧ base ≤ g ∧ n = xs.length ∧ g < w.heap.size := by
  obtain ⟨inner, ho⟩ := Kd.R_own h
  rcases ho.2 with ⟨he, h0⟩ | ⟨g, cap, cur, he, hb, hh, _⟩
  · omega
  · injection he with h1 h2 h3
    exact ⟨g, h1, hb, h2, (Array.getElem?_eq_some_iff.1 hh).1⟩
end Go.Proofs.Ytanhibhcmfmeeaa.Cut
