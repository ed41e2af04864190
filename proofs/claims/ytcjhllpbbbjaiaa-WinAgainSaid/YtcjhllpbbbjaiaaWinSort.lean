import Derived.Test.YtcjhllpbbbjaiaaWinClo
import Derived.Test.YtcjhllpbbbjaiaaWWords
import Derived.Shelf.SlSortCmp.NoneTotal
import Derived.Shelf.Lay
import Derived.Ground.SlsfProg
import Derived.Sort.OwnSorted
/- The sort of places: what it leaves, in a row of the call's own. -/
namespace Go.Proofs.Ytcjhllpbbbjaiaa.Win
open Go.Shelf Go.RowKit Go.Lib Go.Sort Go.Proofs Go.Proofs.YtcjhllpbbbjaiaaW.PrintWords
shelf_lay_g SlLaysF0.n6 Slsf 6 at Try 20 as Try.sortPl
def encP (x : P2) : List Value := [.int .i64 x.1, .int .i64 x.2]
abbrev K2 : Kd P2 := Kd.pair (Kd.int .i64) (Kd.int .i64)
theorem K2_M (w : World) (base : Nat) (ok : Nat → Prop) (x : P2) : K2.M w base ok x (encP x) := ⟨[.int .i64 x.1], _, rfl, rfl, rfl⟩
theorem encP_len (x : P2) : (encP x).length = 2 := rfl
theorem encP_one (x : P2) : ∀ v ∈ encP x, v.oneCell' = true := by
  intro v hv
  simp [encP] at hv
  rcases hv with rfl | rfl <;> rfl
theorem fm_len (l : List P2) : (l.flatMap encP).length = l.length * 2 := by
  induction l with
  | nil => rfl
  | cons x r ih => rw [List.flatMap_cons, List.length_append, ih, encP_len, List.length_cons]; omega
theorem fm_get : ∀ (l : List P2) (t : Nat), (l.flatMap encP)[t]? = (l[t / 2]?).bind fun x => (encP x)[t % 2]?
  | [], t => by simp
  | x :: r, t => by
    rw [List.flatMap_cons]
    by_cases h : t < 2
    · rw [List.getElem?_append_left (by rw [encP_len]; exact h), Nat.div_eq_of_lt h, Nat.mod_eq_of_lt h]; rfl
    · rw [List.getElem?_append_right (by rw [encP_len]; omega), encP_len, fm_get r (t - 2)]
      have e1 : (t - 2) / 2 = t / 2 - 1 := by omega
      have e2 : (t - 2) % 2 = t % 2 := by omega
      have e3 : t / 2 = (t / 2 - 1) + 1 := by omega
      rw [e1, e2]
      conv => rhs; rw [e3, List.getElem?_cons_succ]
theorem fm_drop : ∀ (l : List P2) (j : Nat) (p : P2), l[j]? = some p → ((l.flatMap encP).drop (j * 2)).take 2 = encP p
  | [], j, p, h => by simp at h
  | x :: r, 0, p, h => by
    obtain rfl : x = p := by simpa using h
    rw [List.flatMap_cons, Nat.zero_mul, List.drop_zero]
    exact List.take_left' (encP_len x)
  | x :: r, j + 1, p, h => by
    rw [List.flatMap_cons, Nat.succ_mul, Nat.add_comm, ← List.drop_drop, List.drop_left' (encP_len x)]
    exact fm_drop r j p (by simpa using h)
theorem reps (w : World) (base : Nat) (ok : Nat → Prop) (l : List P2) : Reps (K2.M w base ok) 2 l (l.flatMap encP) :=
  ⟨fm_len l, fun j p h => by rw [fm_drop l j p h]; exact K2_M _ _ _ _⟩
theorem own_R {w : World} {base : Nat} {v : Value} {l : List P2} (h : w.ownsRow base 54 2 v l.length (l.flatMap encP)) : K2.R 54 w base (fun _ => True) v l :=
  ⟨fun _ _ => trivial, _, h, reps _ _ _ _⟩
theorem flat_list (d : Array P2) : (flatK encP 2 d).toList = d.toList.flatMap encP := by
  apply List.ext_getElem?
  intro t
  rw [fm_get]
  by_cases h : t < d.size * 2
  · have h2' : t / 2 < d.size := by omega
    have hm : t % 2 < 2 := Nat.mod_lt _ (by decide)
    rw [List.getElem?_eq_getElem (l := d.toList) (by rw [Array.length_toList]; exact h2'), Option.bind_some]
    have e : (flatK encP 2 d).toList[t]? = some ((encP d[t / 2]!)[t % 2]!) := by
      simp [flatK, h]
    rw [e, getElem!_pos d (t / 2) h2', getElem!_pos _ (t % 2) (by rw [encP_len]; exact hm), List.getElem?_eq_getElem (by rw [encP_len]; exact hm)]
    rfl
  · rw [List.getElem?_eq_none (by simp; omega), List.getElem?_eq_none (l := d.toList) (by simp; omega)]; rfl
theorem flat_size (d : Array P2) : (flatK encP 2 d).size = d.size * 2 := size_flatK _ _ _
theorem holds2_ {w : World} {g : Nat} {cur : Array Value} {e : TypeId} {l : List P2} (hb : w.heap[g]? = some (.cells cur e (0, 0))) (ht : cur.toList.take (l.length * 2) = l.flatMap encP) : HoldsK encP 2 w g 0 l.toArray := by
  intro j hj
  have hj' : j < l.length * 2 := by rw [flat_size] at hj; simpa using hj
  refine ⟨?_, by simp [World.frozen?, hb]⟩
  have h1 : (cur.toList.take (l.length * 2))[j]? = (flatK encP 2 l.toArray).toList[j]? := by rw [ht, flat_list]
  rw [List.getElem?_take_of_lt hj', List.getElem?_eq_getElem (l := (flatK encP 2 l.toArray).toList) (by simpa using hj)] at h1
  simp only [World.cell?, hb, Nat.zero_add]
  simp only [Option.isSome_none, Bool.false_eq_true, if_false]
  rw [← Array.getElem?_toList, h1, getElem!_pos _ j hj]
  rfl
theorem heap2_ {w : World} {g n : Nat} {os : Array Obj} {cur : Array Value} {e : TypeId} {fr : Nat × Nat} (d : Array P2) (hb : w.heap[g]? = some (.cells cur e fr)) :
    (sortWorldK encP 2 w g 0 n d os).heap[g]? = some (.cells (putCells id 0 (flatK encP 2 d) cur) e fr) := by
  have hg : g < w.heap.size := (Array.getElem?_eq_some_iff.1 hb).1
  unfold sortWorldK putRowK
  rw [heap_grow_old _ _ (by simpa using hg)]
  simp [putRow, mapBlock, Sort.ahead, Array.getElem?_modify, hb, onCells]
theorem grown2_ {w : World} {g n : Nat} {os : Array Obj} (d : Array P2) : w.grownBy (sortWorldK encP 2 w g 0 n d os) (some g) := by
  unfold sortWorldK putRowK
  refine ⟨rfl, rfl, rfl, by simp, fun k hk hne => ?_⟩
  rw [heap_grow_old _ _ (by simpa using hk)]
  have : g ≠ k := fun e => hne (by rw [e])
  simp [putRow, mapBlock, Sort.ahead, Array.getElem?_modify, this]
theorem take2_ (cur : Array Value) (ys : List Value) (F : Array Value) (hF : F.toList = ys) (h : ys.length ≤ cur.size) : (putCells id 0 F cur).toList.take ys.length = ys := by
  subst hF
  apply List.ext_getElem?
  intro j
  by_cases hj : j < F.size
  · rw [List.getElem?_take_of_lt (by simpa using hj), Array.getElem?_toList]
    simp at h
    simp [putCells, hj, show j < cur.size by omega]
  · rw [List.getElem?_take_eq_none (by simp; omega), List.getElem?_eq_none (by simp; omega)]
theorem own2_ {w : World} {base g cap n : Nat} {e : TypeId} {os : Array Obj} {cur : Array Value} {m : Nat} (d : Array P2) (hd : d.size = m) (hbase : base ≤ g) (hb : w.heap[g]? = some (.cells cur e (0, 0))) (h1 : m ≤ cap) (h2 : cap ≤ maxLen) (h3 : cur.size = cap * 2) :
    (sortWorldK encP 2 w g 0 n d os).ownsRow base e 2 (.slice (some ⟨g, 0, none⟩) m cap) m (d.toList.flatMap encP) := by
  have hl : (d.toList.flatMap encP).length = m * 2 := by rw [fm_len]; simp [hd]
  refine ⟨hl, .inr ⟨g, cap, _, rfl, hbase, heap2_ d hb, h1, h2, by simp [putCells, h3], ?_⟩⟩
  rw [← hl]
  exact take2_ cur _ _ (flat_list d) (by rw [hl, h3]; exact Nat.mul_le_mul_right _ h1)
theorem ltP (x y : P2) : ltOf cfP x y = decide (ltW x y) := by
  unfold ltOf
  by_cases h : ltW x y
  · rw [decide_eq_true h, decide_eq_true ((cfP_lt x y).2 h)]
  · rw [decide_eq_false h, decide_eq_false (fun h' => h ((cfP_lt x y).1 h'))]
theorem swoP : SWO (ltOf cfP) where
  irrefl x := by rw [ltP]; exact decide_eq_false (ltW_irr _)
  trans x y z h1 h2 := by
    rw [ltP] at *
    exact decide_eq_true (ltW_trans (of_decide_eq_true h1) (of_decide_eq_true h2))
  ntrans x y z h1 h2 := by
    rw [ltP] at *
    have h1 := of_decide_eq_false h1
    have h2 := of_decide_eq_false h2
    refine decide_eq_false ?_
    unfold ltW at *
    omega
theorem perm2_ {d d' : Array P2} (h : PermIn 0 d.size d d') : d'.size = d.size ∧ d'.toList.Perm d.toList := by
  obtain ⟨h1, _, h3⟩ := h
  refine ⟨h1, ?_⟩
  have e : d'.extract 0 d.size = d' := by rw [← h1]; exact Array.extract_size
  rwa [e, Array.extract_size] at h3
theorem sorted2_ {d' : Array P2} {n : Nat} (hn : d'.size = n) (h : SortedIn (ltOf cfP) 0 n d') : d'.toList.Pairwise fun a b => ¬ ltW b a := by
  rw [List.pairwise_iff_getElem]
  intro i j hi hj hij
  have hi' : i < d'.size := by simpa using hi
  have hj' : j < d'.size := by simpa using hj
  have := h i j (Nat.zero_le _) hij (by omega)
  rw [ltP, getElem!_pos d' i hi', getElem!_pos d' j hj'] at this
  exact of_decide_eq_false this
theorem isAggP (w : World) : (isAgg 54).run Try.prog w = .ok true w := by have h := Try.isAgg54; exact h w
theorem sizeP_ (w : World) : (Go.sizeOf 54).run Try.prog w = .ok 2 w := by have h := Try.sizeOf54; exact h w
/-- The sort at a row of the call's own. -/
theorem sort_calls (v : Value) (out : List P2) (w : World) (base : Nat) (hown : w.ownsRow base 54 2 v out.length (out.flatMap encP)) (hn : out.length ≤ 1000000) :
    Calls Try.prog 20 #[v, .func (.func 21) #[] #[]] w fun e w' => e = .returned (.tuple #[]) ∧ ∃ out' : List P2, out'.Perm out ∧ (out'.Pairwise fun a b => ¬ ltW b a) ∧ w'.ownsRow base 54 2 v out'.length (out'.flatMap encP) ∧ w.grownBy w' v.ownBlock := by
  obtain ⟨hlen, hown⟩ := hown
  rcases hown with ⟨rfl, h0⟩ | ⟨g, cap, cur, rfl, hbase, hb, h1, h2, h3, h4⟩
  · have hnil : out = [] := List.length_eq_zero_iff.1 h0
    subst hnil
    have hcon := AnyF.slices_SortFunc_none { Try.sortPl with } none 0 (.func (.func 21) #[] #[]) w
    refine hcon.mono ?_
    rintro e w' ⟨rfl, rfl⟩
    exact ⟨rfl, [], .refl _, .nil, ⟨rfl, .inl ⟨rfl, rfl⟩⟩, World.grownBy.refl _ _⟩
  · have eg : ∀ args w, (callFunc 21 args).run Try.prog w = .ok (.enter 21 args) w := enters_of Try.func21 (by kernel_rfl) rfl
    have hg : g < w.heap.size := (Array.getElem?_eq_some_iff.1 hb).1
    have hsz : out.toArray.size = out.length := by simp
    have hcon := AnyQ.slices_SortFunc Try.sortPl 2 isAggP sizeP_ encP encP_len encP_one cfP swoP 21 #[] g 0 cap out.toArray w eg (fun _ _ _ _ x y => clo_calls x y _) (holds2_ hb h4) hg (by rw [hsz]; omega)
    rw [hsz] at hcon
    refine hcon.mono ?_
    rintro e w' ⟨rfl, d', n, os, hp, hs, rfl⟩
    have hp' : PermIn 0 out.toArray.size out.toArray d' := by rw [hsz]; exact hp
    obtain ⟨q1, q2⟩ := perm2_ hp'
    rw [hsz] at q1
    have ho := own2_ (w := w) (n := n) (os := os) (base := base) d' q1 hbase hb h1 h2 h3
    have q3 : d'.toList.length = out.length := by simpa using q1
    refine ⟨rfl, d'.toList, by simpa using q2, sorted2_ q1 hs, ?_, grown2_ d'⟩
    rw [q3]; exact ho
end Go.Proofs.Ytcjhllpbbbjaiaa.Win
