import Derived.Test.YtfccepkpbnalmaaChgClo
import Derived.Test.YtfccepkpbnalmaaWWords
import Derived.Shelf.SlSortCmp.NoneTotal
import Derived.Shelf.Lay
import Derived.Ground.SlsfProg
import Derived.Sort.OwnSorted
/- The sort of changes: what it leaves, in a row of the call's own. -/
namespace Go.Proofs.Ytfccepkpbnalmaa.Chg
open Go.Shelf Go.RowKit Go.Lib Go.Sort Go.Proofs Go.Proofs.YtfccepkpbnalmaaW.PrintWords
shelf_lay_g SlLaysF0.n6 Slsf 6 at Try 28 as Try.sortChg
def encC (x : T5) : List Value := [.int .i64 x.1, .int .i64 x.2.1, .int .i64 x.2.2.1, .int .i64 x.2.2.2.1, .bool x.2.2.2.2]
abbrev K5 : Kd T5 := Kd.pair (Kd.int .i64) (Kd.pair (Kd.int .i64) (Kd.pair (Kd.int .i64) (Kd.pair (Kd.int .i64) Kd.bool)))
theorem K5_M (w : World) (base : Nat) (ok : Nat → Prop) (x : T5) : K5.M w base ok x (encC x) := ⟨[.int .i64 x.1], _, rfl, rfl, ⟨[.int .i64 x.2.1], _, rfl, rfl, ⟨[.int .i64 x.2.2.1], _, rfl, rfl, ⟨[.int .i64 x.2.2.2.1], _, rfl, rfl, rfl⟩⟩⟩⟩
theorem encC_len (x : T5) : (encC x).length = 5 := rfl
theorem encC_one (x : T5) : ∀ v ∈ encC x, v.oneCell' = true := by
  intro v hv
  simp [encC] at hv
  rcases hv with rfl | rfl | rfl | rfl | rfl <;> rfl
theorem fm_len (l : List T5) : (l.flatMap encC).length = l.length * 5 := by
  induction l with
  | nil => rfl
  | cons x r ih => rw [List.flatMap_cons, List.length_append, ih, encC_len, List.length_cons]; omega
theorem fm_get : ∀ (l : List T5) (t : Nat), (l.flatMap encC)[t]? = (l[t / 5]?).bind fun x => (encC x)[t % 5]?
  | [], t => by simp
  | x :: r, t => by
    rw [List.flatMap_cons]
    by_cases h : t < 5
    · rw [List.getElem?_append_left (by rw [encC_len]; exact h), Nat.div_eq_of_lt h, Nat.mod_eq_of_lt h]; rfl
    · rw [List.getElem?_append_right (by rw [encC_len]; omega), encC_len, fm_get r (t - 5)]
      have e1 : (t - 5) / 5 = t / 5 - 1 := by omega
      have e2 : (t - 5) % 5 = t % 5 := by omega
      have e3 : t / 5 = (t / 5 - 1) + 1 := by omega
      rw [e1, e2]
      conv => rhs; rw [e3, List.getElem?_cons_succ]
theorem fm_drop : ∀ (l : List T5) (j : Nat) (p : T5), l[j]? = some p → ((l.flatMap encC).drop (j * 5)).take 5 = encC p
  | [], j, p, h => by simp at h
  | x :: r, 0, p, h => by
    obtain rfl : x = p := by simpa using h
    rw [List.flatMap_cons, Nat.zero_mul, List.drop_zero]
    exact List.take_left' (encC_len x)
  | x :: r, j + 1, p, h => by
    rw [List.flatMap_cons, Nat.succ_mul, Nat.add_comm, ← List.drop_drop, List.drop_left' (encC_len x)]
    exact fm_drop r j p (by simpa using h)
theorem reps (w : World) (base : Nat) (ok : Nat → Prop) (l : List T5) : Reps (K5.M w base ok) 5 l (l.flatMap encC) :=
  ⟨fm_len l, fun j p h => by rw [fm_drop l j p h]; exact K5_M _ _ _ _⟩
theorem own_R {w : World} {base : Nat} {v : Value} {l : List T5} (h : w.ownsRow base 30 5 v l.length (l.flatMap encC)) : K5.R 30 w base (fun _ => True) v l :=
  ⟨fun _ _ => trivial, _, h, reps _ _ _ _⟩
theorem flat_list (d : Array T5) : (flatK encC 5 d).toList = d.toList.flatMap encC := by
  apply List.ext_getElem?
  intro t
  rw [fm_get]
  by_cases h : t < d.size * 5
  · have h5 : t / 5 < d.size := by omega
    have hm : t % 5 < 5 := Nat.mod_lt _ (by decide)
    rw [List.getElem?_eq_getElem (l := d.toList) (by rw [Array.length_toList]; exact h5), Option.bind_some]
    have e : (flatK encC 5 d).toList[t]? = some ((encC d[t / 5]!)[t % 5]!) := by
      simp [flatK, h]
    rw [e, getElem!_pos d (t / 5) h5, getElem!_pos _ (t % 5) (by rw [encC_len]; exact hm), List.getElem?_eq_getElem (by rw [encC_len]; exact hm)]
    rfl
  · rw [List.getElem?_eq_none (by simp; omega), List.getElem?_eq_none (l := d.toList) (by simp; omega)]; rfl
theorem flat_size (d : Array T5) : (flatK encC 5 d).size = d.size * 5 := size_flatK _ _ _
theorem holds5 {w : World} {g : Nat} {cur : Array Value} {e : TypeId} {l : List T5} (hb : w.heap[g]? = some (.cells cur e (0, 0))) (ht : cur.toList.take (l.length * 5) = l.flatMap encC) : HoldsK encC 5 w g 0 l.toArray := by
  intro j hj
  have hj' : j < l.length * 5 := by rw [flat_size] at hj; simpa using hj
  refine ⟨?_, by simp [World.frozen?, hb]⟩
  have h1 : (cur.toList.take (l.length * 5))[j]? = (flatK encC 5 l.toArray).toList[j]? := by rw [ht, flat_list]
  rw [List.getElem?_take_of_lt hj', List.getElem?_eq_getElem (l := (flatK encC 5 l.toArray).toList) (by simpa using hj)] at h1
  simp only [World.cell?, hb, Nat.zero_add]
  simp only [Option.isSome_none, Bool.false_eq_true, if_false]
  rw [← Array.getElem?_toList, h1, getElem!_pos _ j hj]
  rfl
theorem heap5 {w : World} {g n : Nat} {os : Array Obj} {cur : Array Value} {e : TypeId} {fr : Nat × Nat} (d : Array T5) (hb : w.heap[g]? = some (.cells cur e fr)) :
    (sortWorldK encC 5 w g 0 n d os).heap[g]? = some (.cells (putCells id 0 (flatK encC 5 d) cur) e fr) := by
  have hg : g < w.heap.size := (Array.getElem?_eq_some_iff.1 hb).1
  unfold sortWorldK putRowK
  rw [heap_grow_old _ _ (by simpa using hg)]
  simp [putRow, mapBlock, Sort.ahead, Array.getElem?_modify, hb, onCells]
theorem grown5 {w : World} {g n : Nat} {os : Array Obj} (d : Array T5) : w.grownBy (sortWorldK encC 5 w g 0 n d os) (some g) := by
  unfold sortWorldK putRowK
  refine ⟨rfl, rfl, rfl, by simp, fun k hk hne => ?_⟩
  rw [heap_grow_old _ _ (by simpa using hk)]
  have : g ≠ k := fun e => hne (by rw [e])
  simp [putRow, mapBlock, Sort.ahead, Array.getElem?_modify, this]
theorem take5 (cur : Array Value) (ys : List Value) (F : Array Value) (hF : F.toList = ys) (h : ys.length ≤ cur.size) : (putCells id 0 F cur).toList.take ys.length = ys := by
  subst hF
  apply List.ext_getElem?
  intro j
  by_cases hj : j < F.size
  · rw [List.getElem?_take_of_lt (by simpa using hj), Array.getElem?_toList]
    simp at h
    simp [putCells, hj, show j < cur.size by omega]
  · rw [List.getElem?_take_eq_none (by simp; omega), List.getElem?_eq_none (by simp; omega)]
theorem own5 {w : World} {base g cap n : Nat} {e : TypeId} {os : Array Obj} {cur : Array Value} {m : Nat} (d : Array T5) (hd : d.size = m) (hbase : base ≤ g) (hb : w.heap[g]? = some (.cells cur e (0, 0))) (h1 : m ≤ cap) (h2 : cap ≤ maxLen) (h3 : cur.size = cap * 5) :
    (sortWorldK encC 5 w g 0 n d os).ownsRow base e 5 (.slice (some ⟨g, 0, none⟩) m cap) m (d.toList.flatMap encC) := by
  have hl : (d.toList.flatMap encC).length = m * 5 := by rw [fm_len]; simp [hd]
  refine ⟨hl, .inr ⟨g, cap, _, rfl, hbase, heap5 d hb, h1, h2, by simp [putCells, h3], ?_⟩⟩
  rw [← hl]
  exact take5 cur _ _ (flat_list d) (by rw [hl, h3]; exact Nat.mul_le_mul_right _ h1)
theorem ltC (x y : T5) : ltOf cfC x y = decide (ltQ (kp x) (kp y)) := by
  unfold ltOf
  by_cases h : ltQ (kp x) (kp y)
  · rw [decide_eq_true h, decide_eq_true ((cfC_lt x y).2 h)]
  · rw [decide_eq_false h, decide_eq_false (fun h' => h ((cfC_lt x y).1 h'))]
theorem swoC : SWO (ltOf cfC) where
  irrefl x := by rw [ltC]; exact decide_eq_false (ltQ_irr _)
  trans x y z h1 h2 := by
    rw [ltC] at *
    exact decide_eq_true (ltQ_trans (of_decide_eq_true h1) (of_decide_eq_true h2))
  ntrans x y z h1 h2 := by
    rw [ltC] at *
    have h1 := of_decide_eq_false h1
    have h2 := of_decide_eq_false h2
    refine decide_eq_false ?_
    unfold ltQ at *
    omega
theorem perm5 {d d' : Array T5} (h : PermIn 0 d.size d d') : d'.size = d.size ∧ d'.toList.Perm d.toList := by
  obtain ⟨h1, _, h3⟩ := h
  refine ⟨h1, ?_⟩
  have e : d'.extract 0 d.size = d' := by rw [← h1]; exact Array.extract_size
  rwa [e, Array.extract_size] at h3
theorem sorted5 {d' : Array T5} {n : Nat} (hn : d'.size = n) (h : SortedIn (ltOf cfC) 0 n d') : d'.toList.Pairwise fun a b => ¬ ltQ (kp b) (kp a) := by
  rw [List.pairwise_iff_getElem]
  intro i j hi hj hij
  have hi' : i < d'.size := by simpa using hi
  have hj' : j < d'.size := by simpa using hj
  have := h i j (Nat.zero_le _) hij (by omega)
  rw [ltC, getElem!_pos d' i hi', getElem!_pos d' j hj'] at this
  exact of_decide_eq_false this
theorem isAggC (w : World) : (isAgg 30).run Try.prog w = .ok true w := by have h := Try.isAgg30; exact h w
theorem sizeC (w : World) : (Go.sizeOf 30).run Try.prog w = .ok 5 w := by have h := Try.sizeOf30; exact h w
/-- The sort at a row of the call's own. -/
theorem sort_calls (v : Value) (out : List T5) (w : World) (base : Nat) (hown : w.ownsRow base 30 5 v out.length (out.flatMap encC)) (hn : out.length ≤ 1000000) :
    Calls Try.prog 28 #[v, .func (.func 29) #[] #[]] w fun e w' => e = .returned (.tuple #[]) ∧ ∃ out' : List T5, out'.Perm out ∧ (out'.Pairwise fun a b => ¬ ltQ (kp b) (kp a)) ∧ w'.ownsRow base 30 5 v out'.length (out'.flatMap encC) ∧ w.grownBy w' v.ownBlock := by
  obtain ⟨hlen, hown⟩ := hown
  rcases hown with ⟨rfl, h0⟩ | ⟨g, cap, cur, rfl, hbase, hb, h1, h2, h3, h4⟩
  · have hnil : out = [] := List.length_eq_zero_iff.1 h0
    subst hnil
    have hcon := AnyF.slices_SortFunc_none { Try.sortChg with } none 0 (.func (.func 29) #[] #[]) w
    refine hcon.mono ?_
    rintro e w' ⟨rfl, rfl⟩
    exact ⟨rfl, [], .refl _, .nil, ⟨rfl, .inl ⟨rfl, rfl⟩⟩, World.grownBy.refl _ _⟩
  · have eg : ∀ args w, (callFunc 29 args).run Try.prog w = .ok (.enter 29 args) w := enters_of Try.func29 (by kernel_rfl) rfl
    have hg : g < w.heap.size := (Array.getElem?_eq_some_iff.1 hb).1
    have hsz : out.toArray.size = out.length := by simp
    have hcon := AnyQ.slices_SortFunc Try.sortChg 5 isAggC sizeC encC encC_len encC_one cfC swoC 29 #[] g 0 cap out.toArray w eg (fun _ _ _ _ x y => clo_calls x y _) (holds5 hb h4) hg (by rw [hsz]; omega)
    rw [hsz] at hcon
    refine hcon.mono ?_
    rintro e w' ⟨rfl, d', n, os, hp, hs, rfl⟩
    have hp' : PermIn 0 out.toArray.size out.toArray d' := by rw [hsz]; exact hp
    obtain ⟨q1, q2⟩ := perm5 hp'
    rw [hsz] at q1
    have ho := own5 (w := w) (n := n) (os := os) (base := base) d' q1 hbase hb h1 h2 h3
    have q3 : d'.toList.length = out.length := by simpa using q1
    refine ⟨rfl, d'.toList, by simpa using q2, sorted5 q1 hs, ?_, grown5 d'⟩
    rw [q3]; exact ho
end Go.Proofs.Ytfccepkpbnalmaa.Chg
