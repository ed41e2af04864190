import Derived.Test.YtcjhllpbbbjaiaaWinDo
import Derived.Test.YtcjhllpbbbjaiaaPWinAgainx2
/- Changes: two lists of changes are the same. -/
namespace Go.Proofs.Ytcjhllpbbbjaiaa.Win
open Go.RowKit Go.Maps Go.Proofs.YtcjhllpbbbjaiaaW.PrintWords Go.Proofs.YtcjhllpbbbjaiaaW.PrintMore Go.Proofs.Ytcjhllpbbbjaiaa.Cut Go.Proofs.Ytcjhllpbbbjaiaa.PWinAgain
def toS (x : T5) : S30 := ⟨x.1, x.2.1, x.2.2.1, x.2.2.2.1, x.2.2.2.2⟩
theorem C_toS {w : World} {A : Option Addr} {n : Nat} {l : List T5} (h : K5.C w A n l) : k30.C w A n (l.map toS) := by
  obtain ⟨h1, h2, h3⟩ := h
  refine ⟨by simpa using h1, h2, fun hn => ?_⟩
  obtain ⟨ad, hA, hc⟩ := h3 hn
  refine ⟨ad, hA, fun j p hj => ?_⟩
  rw [List.getElem?_map] at hj
  obtain ⟨q, hq, rfl⟩ := Option.map_eq_some_iff.1 hj
  exact hc j q hq
theorem rd_toS {l : List T5} {j : Nat} (h : j < l.length) : rd_T30 (l.map toS) (j : Int) = toS l[j] := by
  unfold rd_T30
  simp [List.getD, h]
theorem same5 (x y : T5) : ((!((toS x).f0 == (toS y).f0) || (!((toS x).f1 == (toS y).f1) || (!((toS x).f2 == (toS y).f2) || (!((toS x).f3 == (toS y).f3) || (!((toS x).f4 == (toS y).f4)))))) = true) ↔ x ≠ y := by
  obtain ⟨x1, x2, x3, x4, x5⟩ := x
  obtain ⟨y1, y2, y3, y4, y5⟩ := y
  simp only [toS, ne_eq, Prod.mk.injEq, Bool.or_eq_true, Bool.not_eq_true', beq_eq_false_iff_ne]
  by_cases h1 : x1 = y1 <;> by_cases h2 : x2 = y2 <;> by_cases h3 : x3 = y3 <;> by_cases h4 : x4 = y4 <;> by_cases h5 : x5 = y5 <;> simp [h1, h2, h3, h4, h5]
theorem changes_l0 {a b : List T5} (hl : a.length = b.length) (hb : a.length ≤ 1000000) : ∀ (d i k : Nat), a.length - i = d → i ≤ a.length → d < k → (∀ j, j < i → a[j]? = b[j]?) → tidemillref12_Changes.l0 k (a.map toS) (b.map toS) (i : Int) = some (decide (a = b)) := by
  intro d
  induction d with
  | zero =>
    intro i k hd hi hk hs
    obtain ⟨k, rfl⟩ : ∃ m, k = m + 1 := ⟨k - 1, by omega⟩
    simp only [tidemillref12_Changes.l0]
    rw [if_neg (by rw [List.length_map]; omega)]
    have : a = b := List.ext_getElem? fun j => by
      by_cases hj : j < i
      · exact hs j hj
      · rw [List.getElem?_eq_none (by omega), List.getElem?_eq_none (by omega)]
    rw [decide_eq_true this]
  | succ d ih =>
    intro i k hd hi hk hs
    obtain ⟨k, rfl⟩ : ∃ m, k = m + 1 := ⟨k - 1, by omega⟩
    have h1 : i < a.length := by omega
    have h2 : i < b.length := by omega
    simp only [tidemillref12_Changes.l0]
    rw [if_pos (by rw [List.length_map]; omega), if_pos (by omega), if_pos (by rw [List.length_map]; omega), rd_toS h1, rd_toS h2]
    by_cases e : a[i] = b[i]
    · rw [if_neg (by rw [same5]; exact fun h => h e)]
      have hw : wrap64 ((i : Int) + 1) = ((i + 1 : Nat) : Int) := by unfold wrap64; omega
      rw [hw]
      refine ih (i + 1) k (by omega) (by omega) (by omega) fun j hj => ?_
      by_cases hji : j = i
      · subst hji; rw [List.getElem?_eq_getElem h1, List.getElem?_eq_getElem h2, e]
      · exact hs j (by omega)
    · rw [if_pos (by rw [same5]; exact e)]
      have : a ≠ b := fun h => e (by simp [h])
      rw [decide_eq_false this]
theorem changes_f {a b : List T5} (hb : a.length ≤ 1000000) : tidemillref12_Changes.f (a.length + 1) (a.map toS) (b.map toS) = some (decide (a = b)) := by
  unfold tidemillref12_Changes.f
  by_cases hl : a.length = b.length
  · rw [if_pos (by simp [hl])]
    exact changes_l0 hl hb a.length 0 _ rfl (by omega) (by omega) (fun j hj => by omega)
  · rw [if_neg (by rw [List.length_map, List.length_map]; omega), decide_eq_false (fun h => hl (by rw [h]))]
theorem changes_calls {a b : List T5} {A B : Option Addr} {c d : Nat} {w : World} (ha : K5.C w A a.length a) (hac : a.length ≤ c) (hb : K5.C w B b.length b) (hbd : b.length ≤ d) (hn : a.length ≤ 1000000) :
    Calls Try.prog 16 #[.slice A a.length c, .slice B b.length d] w fun e w' => e = .returned (.bool (decide (a = b))) ∧ ∃ q, w' = w.drewN q := by
  have h := tidemillref12_Changes.calls (a.length + 1) A c (a.map toS) B d (b.map toS) (decide (a = b)) w (by rw [List.length_map]; exact C_toS ha) (by rw [List.length_map]; exact hac) (by rw [List.length_map]; exact C_toS hb) (by rw [List.length_map]; exact hbd) (changes_f hn)
  rw [List.length_map, List.length_map] at h
  refine h.mono ?_
  rintro e w' ⟨rfl, h2⟩
  obtain ⟨q, h3⟩ := h2.out
  exact ⟨rfl, q, h3⟩
set_option maxHeartbeats 1000000 in
theorem places_nil (w : World) : Calls Try.prog 19 #[.pointer none] w fun e w' => e = .returned (.slice none 0 0) ∧ w' = w := by
  go_enter Try.func19, Try.ntmps19
  go_wp2
  go_ret
  simp
set_option maxHeartbeats 1000000 in
theorem list_nil (w : World) : Calls Try.prog 13 #[.pointer none] w fun e w' => e = .returned (.slice none 0 0) ∧ w' = w := by
  have hp := places_nil w
  go_enter Try.func13, Try.ntmps13
  go_wp2_with (go_at_call 19; refine hp.mono ?_; rintro e w' ⟨rfl, rfl⟩)
  refine wp_loop_rounds 1 ?_
  rw [rounds_succ]
  go_wp2
  go_ret
  simp
set_option maxHeartbeats 1000000 in
theorem expire_nil (before : Int) (w : World) : Calls Try.prog 14 #[.pointer none, .int .i64 before] w fun e w' => e = .returned (.slice none 0 0) ∧ w' = w := by
  have hp := places_nil w
  go_enter Try.func14, Try.ntmps14
  go_wp2_with (go_at_call 19; refine hp.mono ?_; rintro e w' ⟨rfl, rfl⟩)
  refine wp_loop_rounds 1 ?_
  rw [rounds_succ]
  go_wp2
  go_ret
  simp
end Go.Proofs.Ytcjhllpbbbjaiaa.Win
