import Derived.Test.YtnnahbmhjjamcaaQMap
import Derived.Test.YtnnahbmhjjamcaaWAt
import Derived.Deep.RegionHeld3
import Derived.Deep.AppendLies
import Derived.StillTactics
/- What Merge gathers. -/
namespace Go.Proofs.Ytnnahbmhjjamcaa.Quor
open Go.RowKit Go.Maps Go.Proofs.YtnnahbmhjjamcaaW.PrintWords Go.Proofs.Ytnnahbmhjjamcaa.Cut
/-- What was gathered so far. -/
def Gath (w0 w : World) (cs : List C3) : Prop := ∃ zs D V, zs.map C4.c3 = cs ∧ (∀ z ∈ zs, RdB w0 z ∧ W64 z.at_) ∧ Grp w w0.heap.size w0.heap.size zs D V ∧ Below w0.heap.size w0 w
theorem Gath.len {w0 w : World} {cs : List C3} (h : Gath w0 w cs) : w0.heap.size ≤ w.heap.size := by
  obtain ⟨_, _, _, _, _, _, hb⟩ := h
  exact hb.size
theorem grown_drew {a b : World} {row : Option Nat} (h : a.grownBy b row) : a.grownBy b.drew row := ⟨h.os, h.tape, h.output, h.size, h.block⟩
theorem Grp.look {w : World} {base b : Nat} {l : List C4} {D : DataW Value} {V : Int → Value} (h : Grp w base b l D V) {a : Int} (ha : W64 a) :
    (Instr.lookup 45 (.map (some b)) (.int .i64 a) false).run Try.prog w = .ok (V a) w := by
  obtain ⟨v, ps, hrun, hv⟩ := h.map.lookup keyedI Try.underlying45 (z := .slice none 0 0) (by kernel_rfl) (RV_mk _ _ _) (keyOf_I ha)
  rw [(h.at_ a ha).1] at hv
  obtain ⟨A, n, c, rfl, e⟩ := RV_inv hv
  have e1 : V a = .slice A n c := by
    injection e with e _
    injection e
  rw [e1]; exact hrun
theorem Grp.slice {w : World} {base b : Nat} {l : List C4} {D : DataW Value} {V : Int → Value} (h : Grp w base b l D V) {a : Int} (ha : W64 a) : ∃ A c, V a = .slice A (grp l a).length c := Kd.R_slice (h.row a ha)
theorem reps_flat {w : World} {base : Nat} {ok : Nat → Prop} {xs : List C4} {a : List Value} (h : Reps (K4.M w base ok) 3 xs a) : a = xs.flatMap enc4 := by
  obtain ⟨hl, hp⟩ := h
  apply List.ext_getElem?
  intro t
  rw [fm_get]
  by_cases ht : t < xs.length * 3
  · have h3 : t / 3 < xs.length := by omega
    have h4 := hp (t / 3) xs[t / 3] (List.getElem?_eq_getElem h3)
    have h5 : (a.drop (t / 3 * 3)).take 3 = enc4 xs[t / 3] := h4
    rw [List.getElem?_eq_getElem h3, Option.bind_some, ← h5, List.getElem?_take_of_lt (Nat.mod_lt _ (by decide)), List.getElem?_drop]
    congr 1
    omega
  · rw [List.getElem?_eq_none (by omega), List.getElem?_eq_none (l := xs) (by omega)]; rfl
theorem K4_inner {w : World} {base : Nat} {v : Value} {xs : List C4} {ok : Nat → Prop} (h : K4.R 28 w base ok v xs) : w.ownsRow base 28 3 v xs.length (xs.flatMap enc4) := by
  obtain ⟨_, inner, ho, hr⟩ := h
  have : inner = xs.flatMap enc4 := reps_flat hr
  rw [← this]; exact ho
theorem K4_of {w : World} {base : Nat} {v : Value} {xs : List C4} (h : w.ownsRow base 28 3 v xs.length (xs.flatMap enc4)) : K4.R 28 w base (fun _ => True) v xs := own_R h
theorem gath_step {w W1 w1 w2 : World} {b : Nat} {cs : List C3} {zs : List C4} {D : DataW Value} {V : Int → Value} {z : C4} {vA : Option Addr} {vc gg cap : Nat} (hb : w.heap.size = b) (hz : zs.map C4.c3 = cs) (hrd : ∀ z ∈ zs, RdB w z ∧ W64 z.at_) (hR : RdB w z) (hw : W64 z.at_)
    (hG : Grp W1 b b zs D V) (hB : Below b w W1) (hV : V z.at_ = .slice vA (grp zs z.at_).length vc)
    (hown : w1.ownsRow b 28 3 (.slice (some ⟨gg, 0, none⟩) ((grp zs z.at_).length + 1) cap) ((grp zs z.at_).length + 1) ((grp zs z.at_).flatMap enc4 ++ enc4 z)) (hg : W1.grownBy w1 (Value.slice vA (grp zs z.at_).length vc).ownBlock)
    (hat : (Value.slice vA (grp zs z.at_).length vc).ownBlock = some gg ∨ gg = W1.heap.size + 1)
    (hm : w2.ownsMap Try.prog 3 RV b (zs.length + 1) (D.put (.int .i64 z.at_) (.held (.slice (some ⟨gg, 0, none⟩) ((grp zs z.at_).length + 1) cap)))) (hg2 : w1.grownBy w2 (some b)) : Gath w w2 (cs ++ [z.c3]) := by
  have hrow := K4_inner (hG.row _ hw)
  rw [hV] at hrow
  refine ⟨zs ++ [z], D.put (.int .i64 z.at_) (.held (.slice (some ⟨gg, 0, none⟩) ((grp zs z.at_).length + 1) cap)), fun a => if a = z.at_ then .slice (some ⟨gg, 0, none⟩) ((grp zs z.at_).length + 1) cap else V a, by rw [List.map_append, hz]; rfl, ?_, ?_, ?_⟩
  · intro y hy
    rcases List.mem_append.1 hy with hy | hy
    · exact hrd y hy
    · obtain rfl : y = z := by simpa using hy
      exact ⟨hR, hw⟩
  · rw [hb]
    refine hG.snoc hw (v1 := .slice (some ⟨gg, 0, none⟩) ((grp zs z.at_).length + 1) cap) ?_ (by rw [hV]; exact hg) ?_ hm hg2
    · refine K4_of ?_
      rw [List.length_append, List.length_singleton, List.flatMap_append]
      simpa using hown
    · rw [hV]
      rcases hat with h | h
      · exact .inl h.symm
      · exact .inr ⟨gg, rfl, by omega⟩
  · rw [hb]
    have h1 := hB.grown hg (by have := hB.size; omega) (fun j hj => own_base hrow j hj)
    exact h1.grown hg2 (by have := h1.size; omega) (fun j hj => by cases hj; exact Nat.le_refl _)
theorem flat_le {ls : List (List C3)} {l : List C3} {k j : Nat} (h : ls[k]? = some l) : ((ls.take k).flatten ++ l.take j).length ≤ ls.flatten.length := by
  obtain ⟨hl, rfl⟩ := List.getElem?_eq_some_iff.1 h
  have e : ls.flatten = (ls.take k).flatten ++ (ls[k] ++ (ls.drop (k + 1)).flatten) := by
    conv => lhs; rw [← List.take_append_drop k ls, List.drop_eq_getElem_cons hl]
    rw [List.flatten_append, List.flatten_cons]
  rw [e, List.length_append, List.length_append, List.length_append]
  have : (List.take j ls[k]).length ≤ ls[k].length := by rw [List.length_take]; exact Nat.min_le_right _ _
  omega
theorem grp_len (l : List C4) (a : Int) : (grp l a).length ≤ l.length := List.length_filter_le _ _
end Go.Proofs.Ytnnahbmhjjamcaa.Quor
