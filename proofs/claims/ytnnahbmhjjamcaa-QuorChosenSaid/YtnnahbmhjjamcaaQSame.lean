import Derived.Test.YtnnahbmhjjamcaaQFirst
import Derived.Test.YtnnahbmhjjamcaaPQuorOrderx1
/- Cells: a list is the same as itself; two cells. -/
namespace Go.Proofs.Ytnnahbmhjjamcaa.Quor
open Go.RowKit Go.Maps Go.Proofs.YtnnahbmhjjamcaaW.PrintWords Go.Proofs.YtnnahbmhjjamcaaW.PrintMore Go.Proofs.Ytnnahbmhjjamcaa.Cut Go.Proofs.Ytnnahbmhjjamcaa.PQuorOrder
def toS (x : C3) : S28 := ⟨x.1, x.2.1, x.2.2⟩
theorem C_toS {w : World} {A : Option Addr} {n : Nat} {l : List C3} (h : KC.C w A n l) : k28.C w A n (l.map toS) := by
  obtain ⟨h1, h2, h3⟩ := h
  refine ⟨by simpa using h1, h2, fun hn => ?_⟩
  obtain ⟨ad, hA, hc⟩ := h3 hn
  refine ⟨ad, hA, fun j p hj => ?_⟩
  rw [List.getElem?_map] at hj
  obtain ⟨q, hq, rfl⟩ := Option.map_eq_some_iff.1 hj
  exact hc j q hq
theorem same_self (x : C3) : tidemillref09_Same.f x.1 x.2.1 x.2.2 x.1 x.2.1 x.2.2 = some true := by
  unfold tidemillref09_Same.f
  rw [if_pos rfl, if_pos rfl]
  simp
theorem cells_l0 {a : List C3} (hb : a.length ≤ 1000000) : ∀ (d i k : Nat), a.length - i = d → i ≤ a.length → d < k → tidemillref09_Cells.l0 k (a.map toS) (a.map toS) (i : Int) = some true := by
  intro d
  induction d with
  | zero =>
    intro i k hd hi hk
    obtain ⟨k, rfl⟩ : ∃ m, k = m + 1 := ⟨k - 1, by omega⟩
    simp only [tidemillref09_Cells.l0]
    rw [if_neg (by rw [List.length_map]; omega)]
  | succ d ih =>
    intro i k hd hi hk
    obtain ⟨k, rfl⟩ : ∃ m, k = m + 1 := ⟨k - 1, by omega⟩
    have h1 : i < a.length := by omega
    have hr : rd_T28 (a.map toS) (i : Int) = toS a[i] := by unfold rd_T28; simp [List.getD, h1]
    have hw : wrap64 ((i : Int) + 1) = ((i + 1 : Nat) : Int) := by unfold wrap64; omega
    simp only [tidemillref09_Cells.l0]
    rw [if_pos (by rw [List.length_map]; omega), if_pos (by omega), if_pos (by rw [List.length_map]; omega), hr]
    simp only [toS]
    rw [same_self, hw]
    simp only [Option.bind_some, if_true]
    exact ih (i + 1) k (by omega) (by omega) (by omega)
theorem cells_calls {a : List C3} {A B : Option Addr} {c d : Nat} {w : World} (ha : KC.C w A a.length a) (hac : a.length ≤ c) (hb : KC.C w B a.length a) (hbd : a.length ≤ d) (hn : a.length ≤ 1000000) :
    Calls Try.prog 13 #[.slice A a.length c, .slice B a.length d] w fun e w' => e = .returned (.bool true) ∧ Below w.heap.size w w' := by
  have h := tidemillref09_Cells.calls (a.length + 1) A c (a.map toS) B d (a.map toS) true w (by rw [List.length_map]; exact C_toS ha) (by rw [List.length_map]; exact hac) (by rw [List.length_map]; exact C_toS hb) (by rw [List.length_map]; exact hbd) (by
    unfold tidemillref09_Cells.f
    rw [if_pos rfl]
    exact cells_l0 hn a.length 0 _ rfl (by omega) (by omega))
  rw [List.length_map] at h
  exact h.mono fun e w' h => h
end Go.Proofs.Ytnnahbmhjjamcaa.Quor
