import Derived.Test.YtnnahbmhjjamcaaQGath
import Derived.Test.YtnnahbmhjjamcaaQPlain
/- What Merge collects of the groups. -/
namespace Go.Proofs.Ytnnahbmhjjamcaa.Quor
open Go.RowKit Go.Maps Go.Proofs.YtnnahbmhjjamcaaW.PrintWords Go.Proofs.Ytnnahbmhjjamcaa.Cut
theorem grp_c3 (zs : List C4) (a : Int) : (grp zs a).map C4.c3 = grp3 (zs.map C4.c3) a := by
  unfold grp grp3
  rw [List.filter_map]; rfl
theorem bestF_c3 : ∀ (r : List C4) (x : C4), (bestF x r).c3 = best3 x.c3 (r.map C4.c3)
  | [], x => rfl
  | y :: r, x => by
    have h : bestF x (y :: r) = bestF (if x.ep < y.ep then y else x) r := rfl
    have h2 : best3 x.c3 ((y :: r).map C4.c3) = best3 (if x.ep < y.ep then y.c3 else x.c3) (r.map C4.c3) := rfl
    rw [h, h2, bestF_c3 r]
    by_cases e : x.ep < y.ep
    · rw [if_pos e, if_pos e]
    · rw [if_neg e, if_neg e]
theorem bestAt_grp {zs : List C4} {a : Int} {x : C4} {r : List C4} (h : grp zs a = x :: r) : bestAt (zs.map C4.c3) a = some (bestF x r).c3 := by
  unfold bestAt
  rw [← grp_c3, h, List.map_cons, bestF_c3]
theorem bestF_mem : ∀ (r : List C4) (x : C4), bestF x r ∈ x :: r
  | [], x => by simp [bestF]
  | y :: r, x => by
    have h : bestF x (y :: r) = bestF (if x.ep < y.ep then y else x) r := rfl
    rw [h]
    have := bestF_mem r (if x.ep < y.ep then y else x)
    rcases List.mem_cons.1 this with e | e
    · rw [e]; split <;> simp
    · exact List.mem_cons_of_mem _ (List.mem_cons_of_mem _ e)
def Coll (zs : List C4) (left : Lit → Bool) (out : List C4) : Prop :=
  (out.map C4.at_).Nodup ∧ ∀ c : C3, c ∈ out.map C4.c3 ↔ bestAt (zs.map C4.c3) c.1 = some c ∧ left (.int .i64 c.1) = false
theorem Coll.start {w : World} {base b : Nat} {zs : List C4} {D : DataW Value} {V : Int → Value} (h : Grp w base b zs D V) (hw : ∀ z ∈ zs, W64 z.at_) : Coll zs (Maps.has D) [] := by
  refine ⟨List.nodup_nil, fun c => ⟨fun h => (by cases h), fun ⟨h1, h2⟩ => ?_⟩⟩
  obtain ⟨m1, m2⟩ := bestAt_mem h1
  obtain ⟨z, hz, hzc⟩ := List.mem_map.1 m1
  have hwc : W64 c.1 := by rw [← hzc]; exact hw z hz
  rw [(h.at_ _ hwc).2] at h2
  have hne : grp zs c.1 ≠ [] := by
    intro e
    have : z ∈ grp zs c.1 := List.mem_filter.2 ⟨hz, decide_eq_true (by rw [← hzc]; rfl)⟩
    rw [e] at this; cases this
  simp [hne] at h2
theorem same_int {a c : Int} (ha : W64 a) (hc : W64 c) : (Lit.int .i64 c).sameKey (.int .i64 a) = decide (c = a) := by
  by_cases h : c = a
  · subst h; rw [WideAt.sameKey_self (isKeyI hc), decide_eq_true rfl]
  · rw [decide_eq_false h]
    exact Maps.sameKey_ne fun e => h (by injection e)
theorem Coll.step {zs : List C4} {left : Lit → Bool} {out : List C4} (h : Coll zs left out) (hw : ∀ z ∈ zs, W64 z.at_) {a : Int} (ha : W64 a) {x : C4} {r : List C4} (hg : grp zs a = x :: r) (hl : left (.int .i64 a) = true) {z : C4} (hz : z.c3 = (bestF x r).c3) :
    Coll zs (fun k => left k && !k.sameKey (.int .i64 a)) (out ++ [z]) := by
  have hb := bestAt_grp hg
  have hza : z.at_ = a := by
    have h1 := (bestAt_mem hb).2
    rw [← hz] at h1; exact h1
  have hnot : ∀ c ∈ out.map C4.c3, c.1 ≠ a := by
    intro c hc e
    have := ((h.2 c).1 hc).2
    rw [e, hl] at this; cases this
  refine ⟨?_, fun c => ?_⟩
  · rw [List.map_append]
    refine List.nodup_append.2 ⟨h.1, by simp, fun p hp q hq => ?_⟩
    obtain rfl : q = z.at_ := by simpa using hq
    obtain ⟨y, hy, rfl⟩ := List.mem_map.1 hp
    rw [hza]
    exact hnot y.c3 (List.mem_map_of_mem hy)
  · rw [List.map_append, List.mem_append, h.2 c]
    constructor
    · rintro (⟨h1, h2⟩ | hc)
      · exact ⟨h1, by simp [h2]⟩
      · obtain rfl : c = z.c3 := by simpa using hc
        have e : z.c3.1 = a := hza
        rw [e, hz]
        refine ⟨hb, ?_⟩
        simp only [same_int ha ha, decide_true, Bool.not_true, Bool.and_false]
    · rintro ⟨h1, h2⟩
      obtain ⟨m1, _⟩ := bestAt_mem h1
      obtain ⟨y, hy, hyc⟩ := List.mem_map.1 m1
      have hwc : W64 c.1 := by rw [← hyc]; exact hw y hy
      by_cases e : c.1 = a
      · rw [e, hb] at h1
        right
        rw [← Option.some.inj h1, ← hz]
        simp
      · left
        simp only [same_int ha hwc, decide_eq_false e, Bool.not_false, Bool.and_true] at h2
        exact ⟨h1, h2⟩
theorem Coll.done {zs : List C4} {left : Lit → Bool} {out out' : List C4} (h : Coll zs left out) (hl : ∀ k, left k = false) (hp : out'.Perm out) (hs : out'.Pairwise fun a b => ¬ b.at_ < a.at_) : out'.map C4.c3 = mergeM (zs.map C4.c3) := by
  refine merge_of (out := out.map C4.c3) ?_ (fun c => ?_) (hp.map _) (List.pairwise_map.2 hs)
  · rw [List.map_map]; exact h.1
  · rw [h.2 c]
    exact ⟨fun h => h.1, fun h => ⟨h, hl _⟩⟩
theorem OwnB.kept {w w' : World} {base base' : Nat} {z : C4} {v : Value} {xs : List C4} {ok : Nat → Prop} (h : OwnB w base z) (hv : K4.R 28 w base' ok v xs) (hg : w.grownBy w' v.ownBlock) : OwnB w' base z := by
  refine Kd.R_mono (Kd.R_grown (Kd.R_tight rfl h) hg (fun k hk e => ?_)) (fun _ _ => trivial)
  obtain ⟨c1, h1⟩ := Kd.R_typed h k hk.symm
  obtain ⟨c2, h2⟩ := Kd.R_typed hv k e.symm
  rw [h1] at h2
  injection h2 with h2
  injection h2 with _ h2
  exact absurd h2 (by decide)
theorem OwnB.below {w w' : World} {base : Nat} {z : C4} (h : OwnB w base z) (hb : Below w.heap.size w w') : OwnB w' base z := Kd.R_below h hb
theorem OwnB.low {w : World} {base base' : Nat} {z : C4} (h : OwnB w base z) (hb : base' ≤ base) : OwnB w base' z := Kd.R_lower h hb
theorem R_grown_obj {α : Type} {d : Kd α} {e base b : Nat} {w w' : World} {ok : Nat → Prop} {v : Value} {xs : List α} {o : Obj} (hE : d.E = []) (h : d.R e w base ok v xs) (hb : w.heap[b]? = some o) (ho : ∀ c t f, o ≠ .cells c t f) (hg : w.grownBy w' (some b)) : d.R e w' base (fun _ => True) v xs := by
  refine Kd.R_mono (Kd.R_grown (Kd.R_tight hE h) hg (fun k hk e1 => ?_)) (fun _ _ => trivial)
  obtain ⟨c1, h1⟩ := Kd.R_typed h k hk.symm
  have := Option.some.inj e1
  subst this
  rw [hb] at h1
  exact ho _ _ _ (Option.some.inj h1)
theorem iter_obj {w : World} {b r n : Nat} {D : DataW Value} {left : Lit → Bool} {cnt : Nat} (h : w.ranges Try.prog 3 RV b r n D left cnt) : ∃ o, w.heap[r]? = some o ∧ ∀ c t f, o ≠ .cells c t f := by
  obtain ⟨_, _, _, _, _, _, _, _, _, hit, _⟩ := h
  exact ⟨_, hit, fun _ _ _ => by intro h; cases h⟩
theorem iter_ne_row {w : World} {b r n base : Nat} {D : DataW Value} {left : Lit → Bool} {cnt : Nat} {v : Value} {xs : List C4} {ok : Nat → Prop} (h : w.ranges Try.prog 3 RV b r n D left cnt) (hr : K4.R 28 w base ok v xs) : some r ≠ v.ownBlock := by
  obtain ⟨o, ho, hn⟩ := iter_obj h
  intro e
  obtain ⟨cells, hc⟩ := Kd.R_typed hr r e.symm
  rw [ho] at hc
  exact hn _ _ _ (Option.some.inj hc)
end Go.Proofs.Ytnnahbmhjjamcaa.Quor
