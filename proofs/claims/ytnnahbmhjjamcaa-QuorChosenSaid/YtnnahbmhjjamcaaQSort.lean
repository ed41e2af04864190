import Derived.Test.YtnnahbmhjjamcaaQClo
import Derived.Test.YtnnahbmhjjamcaaWWords
import Derived.Shelf.SlSortCmp.NoneTotal
import Derived.Shelf.Lay
import Derived.Ground.SlsfProg
import Derived.Sort.OwnSorted
/- The sort of cells: what it leaves, in a row of the call's own. -/
namespace Go.Proofs.Ytnnahbmhjjamcaa.Quor
open Go.Shelf Go.RowKit Go.Lib Go.Sort Go.Proofs Go.Proofs.YtnnahbmhjjamcaaW.PrintWords
shelf_lay_g SlLaysF0.n6 Slsf 6 at Try 20 as Try.sortCell
theorem K4_M (w : World) (base : Nat) (ok : Nat → Prop) (x : C4) : K4.M w base ok x (enc4 x) := rfl
theorem fm_len (l : List C4) : (l.flatMap enc4).length = l.length * 3 := by
  induction l with
  | nil => rfl
  | cons x r ih => rw [List.flatMap_cons, List.length_append, ih, enc4_len, List.length_cons]; omega
theorem fm_get : ∀ (l : List C4) (t : Nat), (l.flatMap enc4)[t]? = (l[t / 3]?).bind fun x => (enc4 x)[t % 3]?
  | [], t => by simp
  | x :: r, t => by
    rw [List.flatMap_cons]
    by_cases h : t < 3
    · rw [List.getElem?_append_left (by rw [enc4_len]; exact h), Nat.div_eq_of_lt h, Nat.mod_eq_of_lt h]; rfl
    · rw [List.getElem?_append_right (by rw [enc4_len]; omega), enc4_len, fm_get r (t - 3)]
      have e1 : (t - 3) / 3 = t / 3 - 1 := by omega
      have e2 : (t - 3) % 3 = t % 3 := by omega
      have e3 : t / 3 = (t / 3 - 1) + 1 := by omega
      rw [e1, e2]
      conv => rhs; rw [e3, List.getElem?_cons_succ]
theorem fm_drop : ∀ (l : List C4) (j : Nat) (p : C4), l[j]? = some p → ((l.flatMap enc4).drop (j * 3)).take 3 = enc4 p
  | [], j, p, h => by simp at h
  | x :: r, 0, p, h => by
    obtain rfl : x = p := by simpa using h
    rw [List.flatMap_cons, Nat.zero_mul, List.drop_zero]
    exact List.take_left' (enc4_len x)
  | x :: r, j + 1, p, h => by
    rw [List.flatMap_cons, Nat.succ_mul, Nat.add_comm, ← List.drop_drop, List.drop_left' (enc4_len x)]
    exact fm_drop r j p (by simpa using h)
theorem reps (w : World) (base : Nat) (ok : Nat → Prop) (l : List C4) : Reps (K4.M w base ok) 3 l (l.flatMap enc4) :=
  ⟨fm_len l, fun j p h => by rw [fm_drop l j p h]; exact K4_M _ _ _ _⟩
theorem own_R {w : World} {base : Nat} {v : Value} {l : List C4} (h : w.ownsRow base 28 3 v l.length (l.flatMap enc4)) : K4.R 28 w base (fun _ => True) v l :=
  ⟨fun _ _ => trivial, _, h, reps _ _ _ _⟩
theorem flat_list (d : Array C4) : (flatK enc4 3 d).toList = d.toList.flatMap enc4 := by
  apply List.ext_getElem?
  intro t
  rw [fm_get]
  by_cases h : t < d.size * 3
  · have h2' : t / 3 < d.size := by omega
    have hm : t % 3 < 3 := Nat.mod_lt _ (by decide)
    rw [List.getElem?_eq_getElem (l := d.toList) (by rw [Array.length_toList]; exact h2'), Option.bind_some]
    have e : (flatK enc4 3 d).toList[t]? = some ((enc4 d[t / 3]!)[t % 3]!) := by
      simp [flatK, h]
    rw [e, getElem!_pos d (t / 3) h2', getElem!_pos _ (t % 3) (by rw [enc4_len]; exact hm), List.getElem?_eq_getElem (by rw [enc4_len]; exact hm)]
    rfl
  · rw [List.getElem?_eq_none (by simp; omega), List.getElem?_eq_none (l := d.toList) (by simp; omega)]; rfl
theorem flat_size (d : Array C4) : (flatK enc4 3 d).size = d.size * 3 := size_flatK _ _ _
theorem holds2_ {w : World} {g : Nat} {cur : Array Value} {e : TypeId} {l : List C4} (hb : w.heap[g]? = some (.cells cur e (0, 0))) (ht : cur.toList.take (l.length * 3) = l.flatMap enc4) : HoldsK enc4 3 w g 0 l.toArray := by
  intro j hj
  have hj' : j < l.length * 3 := by rw [flat_size] at hj; simpa using hj
  refine ⟨?_, by simp [World.frozen?, hb]⟩
  have h1 : (cur.toList.take (l.length * 3))[j]? = (flatK enc4 3 l.toArray).toList[j]? := by rw [ht, flat_list]
  rw [List.getElem?_take_of_lt hj', List.getElem?_eq_getElem (l := (flatK enc4 3 l.toArray).toList) (by simpa using hj)] at h1
  simp only [World.cell?, hb, Nat.zero_add]
  simp only [Option.isSome_none, Bool.false_eq_true, if_false]
  rw [← Array.getElem?_toList, h1, getElem!_pos _ j hj]
  rfl
theorem heap2_ {w : World} {g n : Nat} {os : Array Obj} {cur : Array Value} {e : TypeId} {fr : Nat × Nat} (d : Array C4) (hb : w.heap[g]? = some (.cells cur e fr)) :
    (sortWorldK enc4 3 w g 0 n d os).heap[g]? = some (.cells (putCells id 0 (flatK enc4 3 d) cur) e fr) := by
  have hg : g < w.heap.size := (Array.getElem?_eq_some_iff.1 hb).1
  unfold sortWorldK putRowK
  rw [heap_grow_old _ _ (by simpa using hg)]
  simp [putRow, mapBlock, Sort.ahead, Array.getElem?_modify, hb, onCells]
theorem grown2_ {w : World} {g n : Nat} {os : Array Obj} (d : Array C4) : w.grownBy (sortWorldK enc4 3 w g 0 n d os) (some g) := by
  unfold sortWorldK putRowK
  refine ⟨rfl, rfl, rfl, by simp, fun k hk hne => ?_⟩
  rw [heap_grow_old _ _ (by simpa using hk)]
  have : g ≠ k := fun e => hne (by rw [e])
  simp [putRow, mapBlock, Sort.ahead, Array.getElem?_modify, this]
theorem take2_ (cur : Array Value) (ys : List Value) (F : Array Value) (hF : F.toList = ys) (h : ys.length ≤ cur.size) : (putCells id 0 F cur).toList.take ys.length = ys := by
  subst hF
  apply List.ext_getElem?
  intro j
  by_cases hj : j < F.size
  · rw [List.getElem?_take_of_lt (by simpa using hj), Array.getElem?_toList]
    simp at h
    simp [putCells, hj, show j < cur.size by omega]
  · rw [List.getElem?_take_eq_none (by simp; omega), List.getElem?_eq_none (by simp; omega)]
theorem own2_ {w : World} {base g cap n : Nat} {e : TypeId} {os : Array Obj} {cur : Array Value} {m : Nat} (d : Array C4) (hd : d.size = m) (hbase : base ≤ g) (hb : w.heap[g]? = some (.cells cur e (0, 0))) (h1 : m ≤ cap) (h2 : cap ≤ maxLen) (h3 : cur.size = cap * 3) :
    (sortWorldK enc4 3 w g 0 n d os).ownsRow base e 3 (.slice (some ⟨g, 0, none⟩) m cap) m (d.toList.flatMap enc4) := by
  have hl : (d.toList.flatMap enc4).length = m * 3 := by rw [fm_len]; simp [hd]
  refine ⟨hl, .inr ⟨g, cap, _, rfl, hbase, heap2_ d hb, h1, h2, by simp [putCells, h3], ?_⟩⟩
  rw [← hl]
  exact take2_ cur _ _ (flat_list d) (by rw [hl, h3]; exact Nat.mul_le_mul_right _ h1)
theorem lt4 (x y : C4) : ltOf cf4 x y = decide (x.at_ < y.at_) := by
  unfold ltOf
  by_cases h : x.at_ < y.at_
  · rw [decide_eq_true h, decide_eq_true ((cf4_lt x y).2 h)]
  · rw [decide_eq_false h, decide_eq_false (fun h' => h ((cf4_lt x y).1 h'))]
theorem swo4 : SWO (ltOf cf4) where
  irrefl x := by rw [lt4]; exact decide_eq_false (Int.lt_irrefl _)
  trans x y z h1 h2 := by
    rw [lt4] at *
    exact decide_eq_true (Int.lt_trans (of_decide_eq_true h1) (of_decide_eq_true h2))
  ntrans x y z h1 h2 := by
    rw [lt4] at *
    have h1 := of_decide_eq_false h1
    have h2 := of_decide_eq_false h2
    exact decide_eq_false (by omega)
theorem perm2_ {d d' : Array C4} (h : PermIn 0 d.size d d') : d'.size = d.size ∧ d'.toList.Perm d.toList := by
  obtain ⟨h1, _, h3⟩ := h
  refine ⟨h1, ?_⟩
  have e : d'.extract 0 d.size = d' := by rw [← h1]; exact Array.extract_size
  rwa [e, Array.extract_size] at h3
theorem sorted2_ {d' : Array C4} {n : Nat} (hn : d'.size = n) (h : SortedIn (ltOf cf4) 0 n d') : d'.toList.Pairwise fun a b => ¬ b.at_ < a.at_ := by
  rw [List.pairwise_iff_getElem]
  intro i j hi hj hij
  have hi' : i < d'.size := by simpa using hi
  have hj' : j < d'.size := by simpa using hj
  have := h i j (Nat.zero_le _) hij (by omega)
  rw [lt4, getElem!_pos d' i hi', getElem!_pos d' j hj'] at this
  exact of_decide_eq_false this
theorem isAggC (w : World) : (isAgg 28).run Try.prog w = .ok true w := by have h := Try.isAgg28; exact h w
theorem sizeC_ (w : World) : (Go.sizeOf 28).run Try.prog w = .ok 3 w := by have h := Try.sizeOf28; exact h w
/-- The sort at a row of the call's own. -/
theorem sort_calls (v : Value) (out : List C4) (w : World) (base : Nat) (hown : w.ownsRow base 28 3 v out.length (out.flatMap enc4)) (hn : out.length ≤ 1000000) :
    Calls Try.prog 20 #[v, .func (.func 21) #[] #[]] w fun e w' => e = .returned (.tuple #[]) ∧ ∃ out' : List C4, out'.Perm out ∧ (out'.Pairwise fun a b => ¬ b.at_ < a.at_) ∧ w'.ownsRow base 28 3 v out'.length (out'.flatMap enc4) ∧ w.grownBy w' v.ownBlock := by
  obtain ⟨hlen, hown⟩ := hown
  rcases hown with ⟨rfl, h0⟩ | ⟨g, cap, cur, rfl, hbase, hb, h1, h2, h3, h4⟩
  · have hnil : out = [] := List.length_eq_zero_iff.1 h0
    subst hnil
    have hcon := AnyF.slices_SortFunc_none { Try.sortCell with } none 0 (.func (.func 21) #[] #[]) w
    refine hcon.mono ?_
    rintro e w' ⟨rfl, rfl⟩
    exact ⟨rfl, [], .refl _, .nil, ⟨rfl, .inl ⟨rfl, rfl⟩⟩, World.grownBy.refl _ _⟩
  · have eg : ∀ args w, (callFunc 21 args).run Try.prog w = .ok (.enter 21 args) w := enters_of Try.func21 (by kernel_rfl) rfl
    have hg : g < w.heap.size := (Array.getElem?_eq_some_iff.1 hb).1
    have hsz : out.toArray.size = out.length := by simp
    have hcon := AnyQ.slices_SortFunc Try.sortCell 3 isAggC sizeC_ enc4 enc4_len enc4_one cf4 swo4 21 #[] g 0 cap out.toArray w eg (fun _ _ _ _ x y => clo_calls x y _) (holds2_ hb h4) hg (by rw [hsz]; omega)
    rw [hsz] at hcon
    refine hcon.mono ?_
    rintro e w' ⟨rfl, d', n, os, hp, hs, rfl⟩
    have hp' : PermIn 0 out.toArray.size out.toArray d' := by rw [hsz]; exact hp
    obtain ⟨q1, q2⟩ := perm2_ hp'
    rw [hsz] at q1
    have ho := own2_ (w := w) (n := n) (os := os) (base := base) d' q1 hbase hb h1 h2 h3
    have q3 : d'.toList.length = out.length := by simpa using q1
    refine ⟨rfl, d'.toList, by simpa using q2, sorted2_ q1 hs, ?_, grown2_ d'⟩
    rw [q3]; exact ho
end Go.Proofs.Ytnnahbmhjjamcaa.Quor
