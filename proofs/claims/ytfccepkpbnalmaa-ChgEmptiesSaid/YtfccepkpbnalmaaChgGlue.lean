import Derived.Test.YtfccepkpbnalmaaChgWalk
/- chg.Last over any struct that is told as five cells. -/
namespace Go.Proofs.Ytfccepkpbnalmaa.Chg
open Go.RowKit Go.Proofs.YtfccepkpbnalmaaW.PrintWords
theorem C_map {β : Type} (f : β → T5) {w : World} {A : Option Addr} {n : Nat} {l : List β} (h : (Kd.iso K5 f).C w A n l) : K5.C w A n (l.map f) := by
  obtain ⟨h1, h2, h3⟩ := h
  refine ⟨by simpa using h1, h2, fun hn => ?_⟩
  obtain ⟨ad, hA, hc⟩ := h3 hn
  refine ⟨ad, hA, fun j p hj => ?_⟩
  rw [List.getElem?_map] at hj
  obtain ⟨q, hq, rfl⟩ := Option.map_eq_some_iff.1 hj
  exact hc j q hq
theorem R_map {β : Type} (f : β → T5) {e : Nat} {w : World} {base : Nat} {ok : Nat → Prop} {v : Value} {l : List β} (h : K5.R e w base ok v (l.map f)) : (Kd.iso K5 f).R e w base ok v l := by
  obtain ⟨h1, inner, ho, hr⟩ := h
  rw [List.length_map] at ho
  have hr1 := hr.1
  rw [List.length_map] at hr1
  refine ⟨h1, inner, ho, hr1, fun j p hj => hr.2 j (f p) ?_⟩
  rw [List.getElem?_map, hj]; rfl
def wfB (x : T5) : Bool := (Lit.int .i64 x.1).wf && ((Lit.int .i64 x.2.1).wf && (Lit.int .i64 x.2.2.1).wf)
def lastF {β : Type} (f : β → T5) (g : T5 → β) (l : List β) : Option (List β) := if (l.map f).all wfB = true ∧ l.length ≤ 1000000 then some ((lastM (l.map f)).map g) else none
theorem lastF_calls {β : Type} (f : β → T5) (g : T5 → β) (hfg : ∀ x, f (g x) = x) (A : Option Addr) (c : Nat) (l r : List β) (w : World) (hC : (Kd.iso K5 f).C w A l.length l) (hc : l.length ≤ c) (h : lastF f g l = some r) :
    Calls Try.prog 10 #[.slice A l.length c] w fun e w' => ∃ v, e = .returned v ∧ (Kd.iso K5 f).R 30 w' w.heap.size (fun _ => True) v r ∧ Below w.heap.size w w' := by
  unfold lastF at h
  by_cases hw : (l.map f).all wfB = true ∧ l.length ≤ 1000000
  · rw [if_pos hw] at h
    obtain rfl := Option.some.inj h
    have hl : (l.map f).length = l.length := List.length_map _
    have hC2 := C_map f hC
    rw [← hl] at hC2 hc ⊢
    refine (last_calls A c (l.map f) w hC2 ?_ (by rw [hl]; exact hw.2) hc).mono ?_
    · intro x hx
      have := List.all_eq_true.1 hw.1 x hx
      simp only [wfB, Bool.and_eq_true] at this
      exact this
    · rintro e w' ⟨v, h1, h2, h3⟩
      refine ⟨v, h1, R_map f ?_, h3⟩
      have e2 : ((lastM (l.map f)).map g).map f = lastM (l.map f) := by
        rw [List.map_map]
        exact (List.map_congr_left fun x _ => hfg x).trans (List.map_id _)
      rw [e2]; exact h2
  · rw [if_neg hw] at h; cases h
end Go.Proofs.Ytfccepkpbnalmaa.Chg
