import Derived.Test.YtcjhllpbbbjaiaaWinPut4
import Derived.Maps.RangeWalk
/- What is collected of a map's places, sorted, is the store's places. -/
namespace Go.Proofs.Ytcjhllpbbbjaiaa.Win
open Go.RowKit Go.Maps
def Coll (m : St) (left : Lit → Bool) (out : List P2) : Prop :=
  out.Nodup ∧ ∀ p, p ∈ out ↔ W2 p ∧ (look m p).isSome = true ∧ left (kl2 p) = false
theorem Coll.start {D : DataW Unit} {m : St} (h : Agr D m) : Coll m (Maps.has D) [] := by
  refine ⟨List.nodup_nil, fun p => ⟨fun h => (by cases h), fun ⟨h1, h2, h3⟩ => ?_⟩⟩
  rw [(h.2.2 _ h1).2, h2] at h3
  cases h3
theorem sameKl {p q : P2} (hp : W2 p) (hq : W2 q) : (kl2 p).sameKey (kl2 q) = decide (p = q) := by
  by_cases h : p = q
  · subst h; rw [WideAt.sameKey_self (isKey2 hp), decide_eq_true rfl]
  · rw [decide_eq_false h]
    exact Maps.sameKey_ne fun e => h (kl2_inj hp hq e)
theorem Coll.step {m : St} {left : Lit → Bool} {out : List P2} (h : Coll m left out) {p0 : P2} (hp0 : W2 p0) (hat : (look m p0).isSome = true) (hlk : left (kl2 p0) = true) :
    Coll m (fun z => left z && !z.sameKey (kl2 p0)) (out ++ [p0]) := by
  have hnot : p0 ∉ out := fun hm => by
    have := ((h.2 p0).1 hm).2.2
    rw [hlk] at this; cases this
  refine ⟨List.nodup_append.2 ⟨h.1, by simp, fun a ha b hb => ?_⟩, fun p => ?_⟩
  · obtain rfl : b = p0 := by simpa using hb
    exact fun e => hnot (e ▸ ha)
  · rw [List.mem_append, h.2 p, List.mem_singleton]
    constructor
    · rintro (⟨h1, h2, h3⟩ | rfl)
      · exact ⟨h1, h2, by simp [h3]⟩
      · refine ⟨hp0, hat, ?_⟩
        simp only [sameKl hp0 hp0, decide_true, Bool.not_true, Bool.and_false]
    · rintro ⟨h1, h2, h3⟩
      simp only [sameKl h1 hp0] at h3
      by_cases e : p = p0
      · exact .inr e
      · rw [decide_eq_false e] at h3
        exact .inl ⟨h1, h2, by simpa using h3⟩
theorem sorted_uniq : ∀ {a b : List P2}, a.Pairwise ltW → b.Pairwise ltW → (∀ x, x ∈ a ↔ x ∈ b) → a = b
  | [], [], _, _, _ => rfl
  | [], y :: _, _, _, h => by have := (h y).2 List.mem_cons_self; cases this
  | x :: _, [], _, _, h => by have := (h x).1 List.mem_cons_self; cases this
  | x :: r, y :: s, ha, hb, h => by
    obtain ⟨a1, a2⟩ := List.pairwise_cons.1 ha
    obtain ⟨b1, b2⟩ := List.pairwise_cons.1 hb
    have e : x = y := by
      rcases List.mem_cons.1 ((h x).1 List.mem_cons_self) with e | e
      · exact e
      · rcases List.mem_cons.1 ((h y).2 List.mem_cons_self) with e' | e'
        · exact e'.symm
        · exact absurd (ltW_trans (b1 _ e) (a1 _ e')) (ltW_irr _)
    subst e
    refine congrArg (x :: ·) (sorted_uniq a2 b2 fun z => ⟨fun hz => ?_, fun hz => ?_⟩)
    · rcases List.mem_cons.1 ((h z).1 (List.mem_cons_of_mem _ hz)) with e | e
      · subst e; exact absurd (a1 _ hz) (ltW_irr _)
      · exact e
    · rcases List.mem_cons.1 ((h z).2 (List.mem_cons_of_mem _ hz)) with e | e
      · subst e; exact absurd (b1 _ hz) (ltW_irr _)
      · exact e
theorem look_some {m : St} {p : P2} : (look m p).isSome = true ↔ p ∈ m.map (·.1) := by
  cases h : look m p with
  | none =>
    simp only [Option.isSome_none, Bool.false_eq_true, List.mem_map, false_iff]
    rintro ⟨x, hx, rfl⟩
    exact look_none.1 h x hx rfl
  | some v => simpa using ⟨v, look_mem h⟩
def places (m : St) : List P2 := m.map (·.1)
theorem Coll.done {m : St} {left : Lit → Bool} {out out' : List P2} (h : Coll m left out) (hl0 : ∀ k, left k = false) (hs : Sorted m) (hw : ∀ x ∈ m, W2 x.1) (hp : out'.Perm out) (ho : out'.Pairwise fun a b => ¬ ltW b a) : out' = places m := by
  refine sorted_uniq ?_ (List.pairwise_map.2 hs) fun x => ?_
  · have hn : out'.Pairwise fun a b => a ≠ b := (hp.pairwise_iff (fun {a b} (h : a ≠ b) => h.symm)).2 h.1
    exact (hn.and ho).imp fun ⟨a, b⟩ => (ltW_total a).resolve_right b
  · rw [hp.mem_iff, h.2 x, look_some]
    constructor
    · exact fun ⟨_, b, _⟩ => b
    · intro hx
      refine ⟨?_, hx, hl0 _⟩
      obtain ⟨y, hy, rfl⟩ := List.mem_map.1 hx
      exact hw y hy
end Go.Proofs.Ytcjhllpbbbjaiaa.Win
