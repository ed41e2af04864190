import Derived.Test.YtdfpcldoakbehaaSTail
import Derived.Shelf.SlicesE.Kit
import Derived.Sort.Grow
import Derived.Shelf.SlSortCmp.NoneTotal
import Derived.Shelf.Lay
import Derived.Ground.SlsfProg
import Derived.Sort.OwnSorted
/- The sort of cells by their slots. -/
namespace Go.Proofs.Ytdfpcldoakbehaa.Slot
open Go.Shelf Go.RowKit Go.Lib Go.Sort Go.Proofs Go.Proofs.YtdfpcldoakbehaaW.PrintWords Go.Proofs.Ytdfpcldoakbehaa.Quor
shelf_lay_g SlLaysF0.n6 Slsf 6 at Try 27 as Try.sortCell
/-- A cell whose slot may be. -/
abbrev B4 := {z : C4 // 0 ≤ z.at_ ∧ z.at_ ≤ 4095}
instance : Inhabited B4 := ⟨⟨⟨0, 0, [], none, 0⟩, by decide, by decide⟩⟩
def encB (x : B4) : List Value := enc4 x.1
theorem encB_len (x : B4) : (encB x).length = 3 := rfl
theorem encB_one (x : B4) : ∀ v ∈ encB x, v.oneCell' = true := enc4_one x.1
def cfB (x y : B4) : Int := x.1.at_ - y.1.at_
theorem cfB_lt (x y : B4) : cfB x y < 0 ↔ x.1.at_ < y.1.at_ := by unfold cfB; omega
set_option maxHeartbeats 1000000 in
theorem clo_calls (x y : B4) (W : World) : Calls Try.prog 28 #[.agg #[.int .i64 x.1.at_, .int .i64 x.1.ep, .slice x.1.A x.1.by_.length x.1.c], .agg #[.int .i64 y.1.at_, .int .i64 y.1.ep, .slice y.1.A y.1.by_.length y.1.c]] W fun e w' => e = .returned (.int .i64 (cfB x y)) ∧ ∃ q os', w' = grow (W.drewN q) os' := by
  obtain ⟨⟨x1, x2, x3, x4, x5⟩, xr0, xr1⟩ := x
  obtain ⟨⟨y1, y2, y3, y4, y5⟩, yr0, yr1⟩ := y
  unfold cfB
  simp only at xr0 xr1 yr0 yr1 ⊢
  have fin : ∃ q os', (W.alloc (.cells #[.int .i64 x1, .int .i64 x2, .slice x4 x3.length x5] 34)).alloc (.cells #[.int .i64 y1, .int .i64 y2, .slice y4 y3.length y5] 34) = grow (W.drewN q) os' := ⟨0, _, by rw [alloc_eq_grow, alloc_eq_grow, grow_grow]; rfl⟩
  have F := Lib.hid fin
  clear fin
  go_enter Try.func28, Try.ntmps28
  go_wp2
  go_ret
  exact ⟨rfl, F.out⟩
theorem fm_len (l : List B4) : (l.flatMap encB).length = l.length * 3 := by
  induction l with
  | nil => rfl
  | cons x r ih => rw [List.flatMap_cons, List.length_append, ih, encB_len, List.length_cons]; omega
theorem fm_get : ∀ (l : List B4) (t : Nat), (l.flatMap encB)[t]? = (l[t / 3]?).bind fun x => (encB x)[t % 3]?
  | [], t => by simp
  | x :: r, t => by
    rw [List.flatMap_cons]
    by_cases h : t < 3
    · rw [List.getElem?_append_left (by rw [encB_len]; exact h), Nat.div_eq_of_lt h, Nat.mod_eq_of_lt h]; rfl
    · rw [List.getElem?_append_right (by rw [encB_len]; omega), encB_len, fm_get r (t - 3)]
      have e1 : (t - 3) / 3 = t / 3 - 1 := by omega
      have e2 : (t - 3) % 3 = t % 3 := by omega
      have e3 : t / 3 = (t / 3 - 1) + 1 := by omega
      rw [e1, e2]
      conv => rhs; rw [e3, List.getElem?_cons_succ]
theorem fm_drop : ∀ (l : List B4) (j : Nat) (p : B4), l[j]? = some p → ((l.flatMap encB).drop (j * 3)).take 3 = encB p
  | [], j, p, h => by simp at h
  | x :: r, 0, p, h => by
    obtain rfl : x = p := by simpa using h
    rw [List.flatMap_cons, Nat.zero_mul, List.drop_zero]
    exact List.take_left' (encB_len x)
  | x :: r, j + 1, p, h => by
    rw [List.flatMap_cons, Nat.succ_mul, Nat.add_comm, ← List.drop_drop, List.drop_left' (encB_len x)]
    exact fm_drop r j p (by simpa using h)
theorem flat_list (d : Array B4) : (flatK encB 3 d).toList = d.toList.flatMap encB := by
  apply List.ext_getElem?
  intro t
  rw [fm_get]
  by_cases h : t < d.size * 3
  · have h2' : t / 3 < d.size := by omega
    have hm : t % 3 < 3 := Nat.mod_lt _ (by decide)
    rw [List.getElem?_eq_getElem (l := d.toList) (by rw [Array.length_toList]; exact h2'), Option.bind_some]
    have e : (flatK encB 3 d).toList[t]? = some ((encB d[t / 3]!)[t % 3]!) := by
      simp [flatK, h]
    rw [e, getElem!_pos d (t / 3) h2', getElem!_pos _ (t % 3) (by rw [encB_len]; exact hm), List.getElem?_eq_getElem (by rw [encB_len]; exact hm)]
    rfl
  · rw [List.getElem?_eq_none (by simp; omega), List.getElem?_eq_none (l := d.toList) (by simp; omega)]; rfl
theorem flat_size (d : Array B4) : (flatK encB 3 d).size = d.size * 3 := size_flatK _ _ _
theorem holds2_ {w : World} {g : Nat} {cur : Array Value} {e : TypeId} {l : List B4} (hb : w.heap[g]? = some (.cells cur e (0, 0))) (ht : cur.toList.take (l.length * 3) = l.flatMap encB) : HoldsK encB 3 w g 0 l.toArray := by
  intro j hj
  have hj' : j < l.length * 3 := by rw [flat_size] at hj; simpa using hj
  refine ⟨?_, by simp [World.frozen?, hb]⟩
  have h1 : (cur.toList.take (l.length * 3))[j]? = (flatK encB 3 l.toArray).toList[j]? := by rw [ht, flat_list]
  rw [List.getElem?_take_of_lt hj', List.getElem?_eq_getElem (l := (flatK encB 3 l.toArray).toList) (by simpa using hj)] at h1
  simp only [World.cell?, hb, Nat.zero_add]
  simp only [Option.isSome_none, Bool.false_eq_true, if_false]
  rw [← Array.getElem?_toList, h1, getElem!_pos _ j hj]
  rfl
theorem heap2_ {w : World} {g n : Nat} {os : Array Obj} {cur : Array Value} {e : TypeId} {fr : Nat × Nat} (d : Array B4) (hb : w.heap[g]? = some (.cells cur e fr)) :
    (sortWorldK encB 3 w g 0 n d os).heap[g]? = some (.cells (putCells id 0 (flatK encB 3 d) cur) e fr) := by
  have hg : g < w.heap.size := (Array.getElem?_eq_some_iff.1 hb).1
  unfold sortWorldK putRowK
  rw [heap_grow_old _ _ (by simpa using hg)]
  simp [putRow, mapBlock, Sort.ahead, Array.getElem?_modify, hb, onCells]
theorem grown2_ {w : World} {g n : Nat} {os : Array Obj} (d : Array B4) : w.grownBy (sortWorldK encB 3 w g 0 n d os) (some g) := by
  unfold sortWorldK putRowK
  refine ⟨rfl, rfl, rfl, by simp, fun k hk hne => ?_⟩
  rw [heap_grow_old _ _ (by simpa using hk)]
  have : g ≠ k := fun e => hne (by rw [e])
  simp [putRow, mapBlock, Sort.ahead, Array.getElem?_modify, this]
theorem take2_ (cur : Array Value) (ys : List Value) (F : Array Value) (hF : F.toList = ys) (h : ys.length ≤ cur.size) : (putCells id 0 F cur).toList.take ys.length = ys := by
  subst hF
  apply List.ext_getElem?
  intro j
  by_cases hj : j < F.size
  · rw [List.getElem?_take_of_lt (by simpa using hj), Array.getElem?_toList]
    simp at h
    simp [putCells, hj, show j < cur.size by omega]
  · rw [List.getElem?_take_eq_none (by simp; omega), List.getElem?_eq_none (by simp; omega)]
theorem own2_ {w : World} {base g cap n : Nat} {e : TypeId} {os : Array Obj} {cur : Array Value} {m : Nat} (d : Array B4) (hd : d.size = m) (hbase : base ≤ g) (hb : w.heap[g]? = some (.cells cur e (0, 0))) (h1 : m ≤ cap) (h2 : cap ≤ maxLen) (h3 : cur.size = cap * 3) :
    (sortWorldK encB 3 w g 0 n d os).ownsRow base e 3 (.slice (some ⟨g, 0, none⟩) m cap) m (d.toList.flatMap encB) := by
  have hl : (d.toList.flatMap encB).length = m * 3 := by rw [fm_len]; simp [hd]
  refine ⟨hl, .inr ⟨g, cap, _, rfl, hbase, heap2_ d hb, h1, h2, by simp [putCells, h3], ?_⟩⟩
  rw [← hl]
  exact take2_ cur _ _ (flat_list d) (by rw [hl, h3]; exact Nat.mul_le_mul_right _ h1)
theorem ltB (x y : B4) : ltOf cfB x y = decide (x.1.at_ < y.1.at_) := by
  unfold ltOf
  by_cases h : x.1.at_ < y.1.at_
  · rw [decide_eq_true h, decide_eq_true ((cfB_lt x y).2 h)]
  · rw [decide_eq_false h, decide_eq_false (fun h' => h ((cfB_lt x y).1 h'))]
theorem swoB : SWO (ltOf cfB) where
  irrefl x := by rw [ltB]; exact decide_eq_false (Int.lt_irrefl _)
  trans x y z h1 h2 := by
    rw [ltB] at *
    exact decide_eq_true (Int.lt_trans (of_decide_eq_true h1) (of_decide_eq_true h2))
  ntrans x y z h1 h2 := by
    rw [ltB] at *
    have h1 := of_decide_eq_false h1
    have h2 := of_decide_eq_false h2
    exact decide_eq_false (by omega)
theorem perm2_ {d d' : Array B4} (h : PermIn 0 d.size d d') : d'.size = d.size ∧ d'.toList.Perm d.toList := by
  obtain ⟨h1, _, h3⟩ := h
  refine ⟨h1, ?_⟩
  have e : d'.extract 0 d.size = d' := by rw [← h1]; exact Array.extract_size
  rwa [e, Array.extract_size] at h3
theorem sorted2_ {d' : Array B4} {n : Nat} (hn : d'.size = n) (h : SortedIn (ltOf cfB) 0 n d') : d'.toList.Pairwise fun a b => ¬ b.1.at_ < a.1.at_ := by
  rw [List.pairwise_iff_getElem]
  intro i j hi hj hij
  have hi' : i < d'.size := by simpa using hi
  have hj' : j < d'.size := by simpa using hj
  have := h i j (Nat.zero_le _) hij (by omega)
  rw [ltB, getElem!_pos d' i hi', getElem!_pos d' j hj'] at this
  exact of_decide_eq_false this
theorem isAggC (w : World) : (isAgg 34).run Try.prog w = .ok true w := by have h := Try.isAgg34; exact h w
theorem sizeC_ (w : World) : (Go.sizeOf 34).run Try.prog w = .ok 3 w := by have h := Try.sizeOf34; exact h w
/-- The sort at a row of the call's own. -/
theorem sort_calls (v : Value) (out : List B4) (w : World) (base : Nat) (hown : w.ownsRow base 34 3 v out.length (out.flatMap encB)) (hn : out.length ≤ 1000000) :
    Calls Try.prog 27 #[v, .func (.func 28) #[] #[]] w fun e w' => e = .returned (.tuple #[]) ∧ ∃ out' : List B4, out'.Perm out ∧ (out'.Pairwise fun a b => ¬ b.1.at_ < a.1.at_) ∧ w'.ownsRow base 34 3 v out'.length (out'.flatMap encB) ∧ w.grownBy w' v.ownBlock := by
  obtain ⟨hlen, hown⟩ := hown
  rcases hown with ⟨rfl, h0⟩ | ⟨g, cap, cur, rfl, hbase, hb, h1, h2, h3, h4⟩
  · have hnil : out = [] := List.length_eq_zero_iff.1 h0
    subst hnil
    have hcon := AnyF.slices_SortFunc_none { Try.sortCell with } none 0 (.func (.func 28) #[] #[]) w
    refine hcon.mono ?_
    rintro e w' ⟨rfl, rfl⟩
    exact ⟨rfl, [], .refl _, .nil, ⟨rfl, .inl ⟨rfl, rfl⟩⟩, World.grownBy.refl _ _⟩
  · have eg : ∀ args w, (callFunc 28 args).run Try.prog w = .ok (.enter 28 args) w := enters_of Try.func28 (by kernel_rfl) rfl
    have hg : g < w.heap.size := (Array.getElem?_eq_some_iff.1 hb).1
    have hsz : out.toArray.size = out.length := by simp
    have hcon := AnyQ.slices_SortFunc Try.sortCell 3 isAggC sizeC_ encB encB_len encB_one cfB swoB 28 #[] g 0 cap out.toArray w eg (fun _ _ _ _ x y => clo_calls x y _) (holds2_ hb h4) hg (by rw [hsz]; omega)
    rw [hsz] at hcon
    refine hcon.mono ?_
    rintro e w' ⟨rfl, d', n, os, hp, hs, rfl⟩
    have hp' : PermIn 0 out.toArray.size out.toArray d' := by rw [hsz]; exact hp
    obtain ⟨q1, q2⟩ := perm2_ hp'
    rw [hsz] at q1
    have ho := own2_ (w := w) (n := n) (os := os) (base := base) d' q1 hbase hb h1 h2 h3
    have q3 : d'.toList.length = out.length := by simpa using q1
    refine ⟨rfl, d'.toList, by simpa using q2, sorted2_ q1 hs, ?_, grown2_ d'⟩
    rw [q3]; exact ho
end Go.Proofs.Ytdfpcldoakbehaa.Slot
