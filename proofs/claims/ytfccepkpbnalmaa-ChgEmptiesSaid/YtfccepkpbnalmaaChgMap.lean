import Derived.Test.YtfccepkpbnalmaaChgKey
import Derived.Test.YtfccepkpbnalmaaChgLast
/- The map of last changes, as a list tells it; what is collected of it. -/
namespace Go.Proofs.Ytfccepkpbnalmaa.Chg
open Go.Maps (Keyed)
def valC (x : T5) : Value := .agg #[.int .i64 x.1, .int .i64 x.2.1, .int .i64 x.2.2.1, .int .i64 x.2.2.2.1, .bool x.2.2.2.2]
def RC (v : Value) : Option (DataW T5 × List MemPlace) :=
  match v with
  | .agg ⟨[.int .i64 a, .int .i64 b, .int .i64 c, .int .i64 d, .bool e]⟩ => some (.held (a, b, c, d, e), [])
  | _ => none
theorem RC_mk (x : T5) : RC (valC x) = some (.held x, []) := rfl
theorem RC_inv {v : Value} {y : DataW T5 × List MemPlace} (h : RC v = some y) : ∃ x, v = valC x ∧ y = (.held x, []) := by
  unfold RC at h
  split at h
  · exact ⟨_, rfl, (Option.some.inj h).symm⟩
  · cases h
def kl3 (p : P3) : Lit := klP p.1 p.2.1 p.2.2
def val3 (p : P3) : Value := mkP p.1 p.2.1 p.2.2
def W3 (p : P3) : Prop := W64 p.1 ∧ W64 p.2.1 ∧ W64 p.2.2
def W5 (c : T5) : Prop := W3 (kp c)
theorem keyOf_3 {p : P3} (h : W3 p) : keyOf Try.prog 63 (val3 p) = some (kl3 p) := keyOf_mk h.1 h.2.1 h.2.2
theorem keyOf_inv3 {v : Value} {l : Lit} (h : keyOf Try.prog 63 v = some l) : ∃ p, v = val3 p ∧ l = kl3 p ∧ W3 p := by
  obtain ⟨a, b, c, h1, h2, h3, h4, h5⟩ := keyOf_inv h
  exact ⟨(a, b, c), h1, h2, h3, h4, h5⟩
theorem kl3_inj {p q : P3} (hp : W3 p) (hq : W3 q) (h : kl3 p = kl3 q) : p = q := by
  have e := keyedP.inj (keyOf_3 hp) (h ▸ keyOf_3 hq)
  obtain ⟨a, b, c⟩ := p
  obtain ⟨d, e1, f⟩ := q
  simp only [val3, mkP, Value.agg.injEq, Array.mk.injEq, List.cons.injEq, Value.int.injEq, true_and, and_true] at e
  obtain ⟨rfl, rfl, rfl⟩ := e
  rfl
theorem isKey3 {p : P3} (hp : W3 p) : WideAt.IsKeyLit (kl3 p) := keyedP.key (keyOf_3 hp)
/-- The datum tells just the last ones. -/
def Agr (D : DataW T5) (l : List T5) : Prop := Maps.IsMap D ∧ ∀ p, W3 p → D.atKey (kl3 p) .nil = (lastAt l p).elim .nil .held ∧ Maps.has D (kl3 p) = (lastAt l p).isSome
theorem Agr.nil : Agr (.map []) [] := ⟨Maps.isMap_empty, fun _ _ => ⟨rfl, rfl⟩⟩
theorem Agr.snoc {D : DataW T5} {l : List T5} (h : Agr D l) (c : T5) (hc : W5 c) : Agr (D.put (kl3 (kp c)) (.held c)) (l ++ [c]) := by
  refine ⟨h.1.put _ _, fun p hp => ?_⟩
  rw [lastAt_snoc]
  by_cases e : kp c = p
  · subst e
    rw [if_pos rfl, Maps.atKey_put_same h.1 (isKey3 hc), Maps.has_put_same h.1 (isKey3 hc)]
    exact ⟨rfl, rfl⟩
  · have hne : kl3 p ≠ kl3 (kp c) := fun h' => e (kl3_inj hp hc h').symm
    rw [if_neg e, Maps.atKey_put_other hne, Maps.has_put_other hne]
    exact h.2 p hp
/-- What was collected so far: of the places that are no longer to come. -/
def Coll (l : List T5) (left : Lit → Bool) (out : List T5) : Prop :=
  (out.Pairwise fun a b => kp a ≠ kp b) ∧ ∀ c, c ∈ out ↔ lastAt l (kp c) = some c ∧ dl c = false ∧ left (kl3 (kp c)) = false
theorem Coll.start {D : DataW T5} {l : List T5} (h : Agr D l) (hl : ∀ c ∈ l, W5 c) : Coll l (Maps.has D) [] := by
  refine ⟨List.Pairwise.nil, fun c => ⟨fun h => (by cases h), fun ⟨h1, _, h3⟩ => ?_⟩⟩
  rw [(h.2 _ (hl c (lastAt_kp h1).2)).2, h1] at h3
  cases h3
theorem sameKl {p q : P3} (hp : W3 p) (hq : W3 q) : (kl3 p).sameKey (kl3 q) = decide (p = q) := by
  by_cases h : p = q
  · subst h; rw [WideAt.sameKey_self (isKey3 hp), decide_eq_true rfl]
  · rw [decide_eq_false h]
    exact Maps.sameKey_ne fun e => h (kl3_inj hp hq e)
theorem Coll.step {l : List T5} {left : Lit → Bool} {out : List T5} (h : Coll l left out) (hl : ∀ c ∈ l, W5 c) (c0 : T5) (hc0 : W5 c0) (hat : lastAt l (kp c0) = some c0) (hlk : left (kl3 (kp c0)) = true) :
    Coll l (fun z => left z && !z.sameKey (kl3 (kp c0))) (if dl c0 = true then out else out ++ [c0]) := by
  have hmem : ∀ c, lastAt l (kp c) = some c → ((left (kl3 (kp c)) && !(kl3 (kp c)).sameKey (kl3 (kp c0))) = false ↔ left (kl3 (kp c)) = false ∨ c = c0) := by
    intro c hc
    rw [sameKl (hl c (lastAt_kp hc).2) hc0]
    by_cases e : kp c = kp c0
    · rw [decide_eq_true e]
      have : c = c0 := by rw [e, hat] at hc; exact (Option.some.inj hc).symm
      simp [this]
    · rw [decide_eq_false e]
      have : c ≠ c0 := fun h' => e (by rw [h'])
      simp [this]
  have hnot : c0 ∉ out := fun hm => by
    have := ((h.2 c0).1 hm).2.2
    rw [hlk] at this; cases this
  by_cases hd : dl c0 = true
  · rw [if_pos hd]
    refine ⟨h.1, fun c => ?_⟩
    rw [h.2 c]
    constructor
    · rintro ⟨h1, h2, h3⟩
      exact ⟨h1, h2, (hmem c h1).2 (.inl h3)⟩
    · rintro ⟨h1, h2, h3⟩
      rcases (hmem c h1).1 h3 with h4 | h4
      · exact ⟨h1, h2, h4⟩
      · rw [h4, hd] at h2; cases h2
  · rw [if_neg hd]
    have hd' : dl c0 = false := by cases e : dl c0 <;> simp_all
    refine ⟨List.pairwise_append.2 ⟨h.1, by simp, fun a ha b hb => ?_⟩, fun c => ?_⟩
    · obtain rfl : b = c0 := by simpa using hb
      intro e
      obtain ⟨h1, _, _⟩ := (h.2 a).1 ha
      rw [e, hat] at h1
      exact hnot ((Option.some.inj h1) ▸ ha)
    · rw [List.mem_append, h.2 c, List.mem_singleton]
      constructor
      · rintro (⟨h1, h2, h3⟩ | rfl)
        · exact ⟨h1, h2, (hmem c h1).2 (.inl h3)⟩
        · exact ⟨hat, hd', (hmem c hat).2 (.inr rfl)⟩
      · rintro ⟨h1, h2, h3⟩
        rcases (hmem c h1).1 h3 with h4 | h4
        · exact .inl ⟨h1, h2, h4⟩
        · exact .inr h4
theorem Coll.done {l : List T5} {left : Lit → Bool} {out : List T5} (h : Coll l left out) (hl0 : ∀ k, left k = false) : (out.Pairwise fun a b => kp a ≠ kp b) ∧ ∀ c, c ∈ out ↔ lastAt l (kp c) = some c ∧ dl c = false :=
  ⟨h.1, fun c => by rw [h.2 c]; exact ⟨fun ⟨a, b, _⟩ => ⟨a, b⟩, fun ⟨a, b⟩ => ⟨a, b, hl0 _⟩⟩⟩
/-- What was collected, sorted: the last ones. -/
theorem sorted_last {l out out' : List T5} (h1 : out.Pairwise fun a b => kp a ≠ kp b) (h2 : ∀ c, c ∈ out ↔ lastAt l (kp c) = some c ∧ dl c = false) (hp : out'.Perm out) (hs : out'.Pairwise fun a b => ¬ ltQ (kp b) (kp a)) : out' = lastM l := by
  refine lastM_uniq ?_ fun c => by rw [hp.mem_iff, h2]
  have hn : out'.Pairwise fun a b => kp a ≠ kp b := (hp.pairwise_iff (fun {a b} (h : kp a ≠ kp b) => h.symm)).2 h1
  exact (hn.and hs).imp fun ⟨a, b⟩ => (ltQ_total a).resolve_right b
end Go.Proofs.Ytfccepkpbnalmaa.Chg
