import Derived.Test.YtanhibhcmfmeeaaAgNew
import Derived.Test.YtanhibhcmfmeeaaPAggNobodyx2
/- Changes: two lists of changes are the same; two records are. -/
namespace Go.Proofs.Ytanhibhcmfmeeaa.Ag
open Go.RowKit Go.Proofs.YtanhibhcmfmeeaaW.PrintWords Go.Proofs.YtanhibhcmfmeeaaW.PrintMore Go.Proofs.Ytanhibhcmfmeeaa.Cut Go.Proofs.Ytanhibhcmfmeeaa.Fr Go.Proofs.Ytanhibhcmfmeeaa.SlK Go.Proofs.Ytanhibhcmfmeeaa.Ex Go.Proofs.Ytanhibhcmfmeeaa.PAggNobody
def toS (x : T5) : S50 := ⟨x.1, x.2.1, x.2.2.1, x.2.2.2.1, x.2.2.2.2⟩
theorem C_toS {w : World} {A : Option Addr} {n : Nat} {l : List T5} (h : K5.C w A n l) : k50.C w A n (l.map toS) := by
  obtain ⟨h1, h2, h3⟩ := h
  refine ⟨by simpa using h1, h2, fun hn => ?_⟩
  obtain ⟨ad, hA, hc⟩ := h3 hn
  refine ⟨ad, hA, fun j p hj => ?_⟩
  rw [List.getElem?_map] at hj
  obtain ⟨q, hq, rfl⟩ := Option.map_eq_some_iff.1 hj
  exact hc j q hq
theorem rd_toS {l : List T5} {j : Nat} (h : j < l.length) : rd_T50 (l.map toS) (j : Int) = toS l[j] := by
  unfold rd_T50
  simp [List.getD, h]
theorem same5 (x y : T5) : ((!((toS x).f0 == (toS y).f0) || (!((toS x).f1 == (toS y).f1) || (!((toS x).f2 == (toS y).f2) || (!((toS x).f3 == (toS y).f3) || (!((toS x).f4 == (toS y).f4)))))) = true) ↔ x ≠ y := by
  obtain ⟨x1, x2, x3, x4, x5⟩ := x
  obtain ⟨y1, y2, y3, y4, y5⟩ := y
  simp only [toS, ne_eq, Prod.mk.injEq, Bool.or_eq_true, Bool.not_eq_true', beq_eq_false_iff_ne]
  by_cases h1 : x1 = y1 <;> by_cases h2 : x2 = y2 <;> by_cases h3 : x3 = y3 <;> by_cases h4 : x4 = y4 <;> by_cases h5 : x5 = y5 <;> simp [h1, h2, h3, h4, h5]
theorem changes_l0 {a b : List T5} (hl : a.length = b.length) (hb : a.length ≤ 1000000) : ∀ (d i k : Nat), a.length - i = d → i ≤ a.length → d < k → (∀ j, j < i → a[j]? = b[j]?) → tidemillref12_Changes.l0 k (a.map toS) (b.map toS) (i : Int) = some (decide (a = b)) := by
  intro d
  induction d with
  | zero =>
    intro i k hd hi hk hs
    obtain ⟨k, rfl⟩ : ∃ m, k = m + 1 := ⟨k - 1, by omega⟩
    simp only [tidemillref12_Changes.l0]
    rw [if_neg (by rw [List.length_map]; omega)]
    have : a = b := List.ext_getElem? fun j => by
      by_cases hj : j < i
      · exact hs j hj
      · rw [List.getElem?_eq_none (by omega), List.getElem?_eq_none (by omega)]
    rw [decide_eq_true this]
  | succ d ih =>
    intro i k hd hi hk hs
    obtain ⟨k, rfl⟩ : ∃ m, k = m + 1 := ⟨k - 1, by omega⟩
    have h1 : i < a.length := by omega
    have h2 : i < b.length := by omega
    simp only [tidemillref12_Changes.l0]
    rw [if_pos (by rw [List.length_map]; omega), if_pos (by omega), if_pos (by rw [List.length_map]; omega), rd_toS h1, rd_toS h2]
    by_cases e : a[i] = b[i]
    · rw [if_neg (by rw [same5]; exact fun h => h e)]
      have hw : wrap64 ((i : Int) + 1) = ((i + 1 : Nat) : Int) := by unfold wrap64; omega
      rw [hw]
      refine ih (i + 1) k (by omega) (by omega) (by omega) fun j hj => ?_
      by_cases hji : j = i
      · subst hji; rw [List.getElem?_eq_getElem h1, List.getElem?_eq_getElem h2, e]
      · exact hs j (by omega)
    · rw [if_pos (by rw [same5]; exact e)]
      have : a ≠ b := fun h => e (by simp [h])
      rw [decide_eq_false this]
theorem changes_f {a b : List T5} (hb : a.length ≤ 1000000) : tidemillref12_Changes.f (a.length + 1) (a.map toS) (b.map toS) = some (decide (a = b)) := by
  unfold tidemillref12_Changes.f
  by_cases hl : a.length = b.length
  · rw [if_pos (by simp [hl])]
    exact changes_l0 hl hb a.length 0 _ rfl (by omega) (by omega) (fun j hj => by omega)
  · rw [if_neg (by rw [List.length_map, List.length_map]; omega), decide_eq_false (fun h => hl (by rw [h]))]
theorem changes_calls {a b : List T5} {A B : Option Addr} {c d : Nat} {w : World} (ha : K5.C w A a.length a) (hac : a.length ≤ c) (hb : K5.C w B b.length b) (hbd : b.length ≤ d) (hn : a.length ≤ 1000000) :
    Calls Try.prog 14 #[.slice A a.length c, .slice B b.length d] w fun e w' => e = .returned (.bool (decide (a = b))) ∧ ∃ q, w' = w.drewN q := by
  have h := tidemillref12_Changes.calls (a.length + 1) A c (a.map toS) B d (b.map toS) (decide (a = b)) w (by rw [List.length_map]; exact C_toS ha) (by rw [List.length_map]; exact hac) (by rw [List.length_map]; exact C_toS hb) (by rw [List.length_map]; exact hbd) (changes_f hn)
  rw [List.length_map, List.length_map] at h
  refine h.mono ?_
  rintro e w' ⟨rfl, h2⟩
  obtain ⟨q, h3⟩ := h2.out
  exact ⟨rfl, q, h3⟩
theorem eqRec (d : Nat) (w : World) (x0 y0 : Int) (x1 y1 : Int) (x2 y2 : Int) :
    (Op.equalIn (d + 2) 36 (.agg #[.int .i64 x0, .int .i64 x1, .int .i64 x2]) (.agg #[.int .i64 y0, .int .i64 y1, .int .i64 y2])).run Try.prog w = .ok (x0 == y0 && (x1 == y1 && (x2 == y2))) w := by
  refine eqA_of Try.underlying36 (by kernel_rfl) ?_
  refine eqf_cons (by rfl) (by go_simp; rfl) (by go_simp; rfl) (by go_simp) ?_
  refine eqf_cons (by rfl) (by go_simp; rfl) (by go_simp; rfl) (by go_simp) ?_
  exact eqf_last (by rfl) (by go_simp; rfl) (by go_simp; rfl) (by go_simp)
end Go.Proofs.Ytanhibhcmfmeeaa.Ag
