import Derived.Test.YtnnahbmhjjamcaaQSort
import Derived.Test.YtnnahbmhjjamcaaWApart
import Derived.Maps.OwnSet
import Derived.Maps.RangeWalk
import Derived.Maps.Views
import Derived.WalkArith
/- A map of groups of cells, by their slots. -/
namespace Go.Proofs.Ytnnahbmhjjamcaa.Quor
open Go.RowKit Go.Maps Go.Proofs.YtnnahbmhjjamcaaW.PrintWords
abbrev W64 (a : Int) : Prop := (Lit.int .i64 a).wf = true
def RV : Value → Option (DataW Value × List MemPlace)
  | .slice A n c => some (.held (.slice A n c), [])
  | _ => none
theorem RV_mk (A : Option Addr) (n c : Nat) : RV (.slice A n c) = some (.held (.slice A n c), []) := rfl
theorem RV_inv {v : Value} {z : DataW Value × List MemPlace} (h : RV v = some z) : ∃ A n c, v = .slice A n c ∧ z = (.held v, []) := by
  unfold RV at h
  split at h
  · rename_i A n c
    exact ⟨A, n, c, rfl, (Option.some.inj h).symm⟩
  · cases h
theorem keyedI : Keyed Try.prog 3 := int_keyed Try.underlying3
theorem keyOf_I {a : Int} (h : W64 a) : keyOf Try.prog 3 (.int .i64 a) = some (.int .i64 a) := keyOf_int_mk Try.underlying3 h
theorem isKeyI {a : Int} (h : W64 a) : WideAt.IsKeyLit (.int .i64 a) := keyedI.key (keyOf_I h)
def grp (l : List C4) (a : Int) : List C4 := l.filter fun z => decide (z.at_ = a)
theorem grp_snoc_same {l : List C4} {x : C4} : grp (l ++ [x]) x.at_ = grp l x.at_ ++ [x] := by simp [grp]
theorem grp_snoc_other {l : List C4} {x : C4} {a : Int} (h : a ≠ x.at_) : grp (l ++ [x]) a = grp l a := by
  have : ¬ x.at_ = a := fun e => h e.symm
  simp [grp, this]
structure Grp (w : World) (base b : Nat) (l : List C4) (D : DataW Value) (V : Int → Value) : Prop where
  map : w.ownsMap Try.prog 3 RV b l.length D
  at_ : ∀ a, W64 a → D.atKey (.int .i64 a) (.held (.slice none 0 0)) = .held (V a) ∧ Maps.has D (.int .i64 a) = decide (grp l a ≠ [])
  row : ∀ a, W64 a → K4.R 28 w base (fun k => some k = (V a).ownBlock) (V a) (grp l a)
  apart : ∀ a a' k, W64 a → W64 a' → a ≠ a' → (V a).ownBlock = some k → (V a').ownBlock ≠ some k
theorem Grp.start (w : World) (base : Nat) : Grp (w.alloc (.map #[] 0)) base w.heap.size [] (.map []) (fun _ => .slice none 0 0) where
  map := World.ownsMap_made _ _ _ _
  at_ := fun a _ => ⟨rfl, rfl⟩
  row := fun a _ => Kd.R_nil _ _ _ _ _
  apart := fun a a' k _ _ _ h => by simp [Value.ownBlock] at h
theorem row_move {w w' : World} {base : Nat} {v : Value} {xs : List C4} (h : K4.R 28 w base (fun k => some k = v.ownBlock) v xs) {row : Option Nat} (hg : w.grownBy w' row) (hne : row = none ∨ row ≠ v.ownBlock) : K4.R 28 w' base (fun k => some k = v.ownBlock) v xs :=
  Kd.R_grown h hg (fun k hk e => by
    rcases hne with h1 | h1
    · rw [h1] at e; cases e
    · exact h1 (e ▸ hk))
theorem map_ne_row {w : World} {base n b : Nat} {v : Value} {xs : List C4} {D : DataW Value} {ok : Nat → Prop} (hm : w.ownsMap Try.prog 3 RV b n D) (h : K4.R 28 w base ok v xs) : some b ≠ v.ownBlock := by
  obtain ⟨_, _, hb, _⟩ := hm
  intro e
  obtain ⟨cells, hc⟩ := Kd.R_typed h b e.symm
  rw [hb] at hc
  cases hc
theorem Grp.grown {w w' : World} {base b : Nat} {l : List C4} {D : DataW Value} {V : Int → Value} (h : Grp w base b l D V) (hg : w.grownBy w' none) : Grp w' base b l D V where
  map := h.map.kept hg (by simp)
  at_ := h.at_
  row := fun a ha => row_move (h.row a ha) hg (.inl rfl)
  apart := h.apart
theorem Grp.snoc {w w1 w2 : World} {base b : Nat} {l : List C4} {D : DataW Value} {V : Int → Value} (h : Grp w base b l D V) {x : C4} (hx : W64 x.at_) {v1 : Value}
    (hr : K4.R 28 w1 base (fun _ => True) v1 (grp l x.at_ ++ [x])) (hg : w.grownBy w1 (V x.at_).ownBlock) (hat : v1.ownBlock = (V x.at_).ownBlock ∨ ∃ k, v1.ownBlock = some k ∧ w.heap.size ≤ k)
    (hm : w2.ownsMap Try.prog 3 RV b (l.length + 1) (D.put (.int .i64 x.at_) (.held v1))) (hg2 : w1.grownBy w2 (some b)) :
    Grp w2 base b (l ++ [x]) (D.put (.int .i64 x.at_) (.held v1)) (fun a => if a = x.at_ then v1 else V a) where
  map := by rw [List.length_append, List.length_singleton]; exact hm
  at_ := fun a ha => by
    by_cases e : a = x.at_
    · subst e
      rw [if_pos rfl, Maps.atKey_put_same h.map.isMap (isKeyI ha), Maps.has_put_same h.map.isMap (isKeyI ha)]
      exact ⟨rfl, by rw [grp_snoc_same]; simp⟩
    · have hne : (Lit.int .i64 a) ≠ .int .i64 x.at_ := fun h' => e (by injection h')
      rw [if_neg e, Maps.atKey_put_other hne, Maps.has_put_other hne, grp_snoc_other e]
      exact h.at_ a ha
  row := fun a ha => by
    have hb1 : some b ≠ v1.ownBlock := map_ne_row (h.map.kept hg (map_ne_row h.map (h.row _ hx))) hr
    by_cases e : a = x.at_
    · subst e
      simp only [if_true]
      rw [grp_snoc_same]
      exact row_move (Kd.R_tight rfl hr) hg2 (.inr hb1)
    · simp only [if_neg e]
      rw [grp_snoc_other e]
      have h1 := row_move (h.row a ha) hg (by
        cases hk : (V x.at_).ownBlock with
        | none => exact .inl rfl
        | some k => exact .inr fun e' => h.apart _ _ k hx ha (fun e'' => e e''.symm) hk e'.symm)
      exact row_move h1 hg2 (.inr (map_ne_row (h.map.kept hg (map_ne_row h.map (h.row _ hx))) h1))
  apart := fun a a' k ha ha' hne hk => by
    by_cases e : a = x.at_
    · subst e
      have e' : a' ≠ x.at_ := fun e' => hne e'.symm
      simp only [if_true] at hk
      simp only [if_neg e']
      intro hk'
      have hlt := Kd.R_lt (h.row a' ha') k hk'
      rcases hat with h1 | ⟨k', h1, h2⟩
      · rw [h1] at hk
        exact h.apart _ _ k hx ha' hne hk hk'
      · rw [h1] at hk
        have := Option.some.inj hk
        omega
    · simp only [if_neg e] at hk
      have hlt := Kd.R_lt (h.row a ha) k hk
      by_cases e' : a' = x.at_
      · subst e'
        simp only [if_true]
        intro hk'
        rcases hat with h1 | ⟨k', h1, h2⟩
        · rw [h1] at hk'
          exact h.apart _ _ k ha hx hne hk hk'
        · rw [h1] at hk'
          have := Option.some.inj hk'
          omega
      · simp only [if_neg e']
        exact h.apart _ _ k ha ha' hne hk
end Go.Proofs.Ytnnahbmhjjamcaa.Quor
