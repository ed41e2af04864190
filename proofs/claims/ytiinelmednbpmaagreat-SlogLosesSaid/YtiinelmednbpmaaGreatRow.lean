import Derived.Test.YtiinelmednbpmaaGreatWZeros
import Derived.Test.YtiinelmednbpmaaGreatWMore
import Derived.Lib.Hide
import Derived.Lib.SliceRun
import Derived.Laws.CopyOwn
/- A row of the call's own whose slice may have less room than its block: 'x = x[:n:n]', append, clear. One cell an element. -/
namespace Go.Proofs.YtiinelmednbpmaaGreat.Row
open Go.RowKit Go.Proofs.YtiinelmednbpmaaGreatW.PrintWords

/-- v is a slice of the call's own (from base on, element type e) that holds xs. -/
def Row (w : World) (base : Nat) (e : TypeId) (v : Value) (xs : List Value) : Prop :=
  (v = .slice none 0 0 ∧ xs = []) ∨ ∃ g c cur, v = .slice (some ⟨g, 0, none⟩) xs.length c ∧ base ≤ g ∧ w.heap[g]? = some (.cells cur e (0, 0)) ∧ xs.length ≤ c ∧ c ≤ cur.size ∧ cur.size ≤ 9223372036854775807 ∧ cur.toList.take xs.length = xs

section
variable {w w1 : World} {base : Nat} {e : TypeId} {v : Value} {xs : List Value}
theorem Row.nil (w : World) (base : Nat) (e : TypeId) : Row w base e (.slice none 0 0) [] := .inl ⟨rfl, rfl⟩
theorem Row.move (h : Row w base e v xs) (hm : ∀ k, v.ownBlock = some k → w1.heap[k]? = w.heap[k]?) : Row w1 base e v xs := by
  rcases h with h | ⟨g, c, cur, rfl, hb, hh, r⟩
  · exact .inl h
  · exact .inr ⟨g, c, cur, rfl, hb, (hm g (by simp [Value.ownBlock])).trans hh, r⟩
theorem Row.lt (h : Row w base e v xs) (k : Nat) (hk : v.ownBlock = some k) : base ≤ k ∧ k < w.heap.size ∧ ∃ cur, w.heap[k]? = some (.cells cur e (0, 0)) := by
  rcases h with ⟨rfl, _⟩ | ⟨g, c, cur, rfl, hb, hh, r⟩
  · simp [Value.ownBlock] at hk
  · obtain rfl : g = k := by simpa [Value.ownBlock] using hk
    exact ⟨hb, (Array.getElem?_eq_some_iff.1 hh).1, cur, hh⟩
theorem Row.below (h : Row w base e v xs) (hb : Below w.heap.size w w1) : Row w1 base e v xs := h.move fun k hk => hb.block k (h.lt k hk).2.1
theorem Row.slice (h : Row w base e v xs) : ∃ A c, v = .slice A xs.length c ∧ xs.length ≤ c ∧ c ≤ 9223372036854775807 := by
  rcases h with ⟨rfl, rfl⟩ | ⟨g, c, cur, rfl, hb, hh, h1, h2, h3, h4⟩
  · exact ⟨none, 0, rfl, Nat.le_refl _, by omega⟩
  · exact ⟨_, c, rfl, h1, by omega⟩
theorem Row.cellAt (h : Row w base e v xs) {A : Option Addr} {n c : Nat} (hv : v = .slice A n c) (j : Nat) (u : Value) (hu : xs[j]? = some u) : ∃ g, A = some ⟨g, 0, none⟩ ∧ w.cell? ⟨g, j, none⟩ = some u ∧ w.frozen? ⟨g, j, none⟩ = false := by
  have hj := (List.getElem?_eq_some_iff.1 hu).1
  rcases h with ⟨_, rfl⟩ | ⟨g, c', cur, rfl, hb, hh, h1, h2, h3, h4⟩
  · simp at hj
  · injection hv with hA _ _
    refine ⟨g, hA.symm, ?_, blk_frozen hh _⟩
    rw [blk_cell hh, ← Array.getElem?_toList]
    rw [← h4, List.getElem?_take, if_pos hj] at hu
    exact hu
theorem Row.reads {k : IntKind} {ns : List Int} (h : Row w base e v (nums k ns)) : ∃ A c, v = .slice A ns.length c ∧ ns.length ≤ c ∧ (Kd.int k).C w A ns.length ns := by
  obtain ⟨A, c, hv, hc, hm⟩ := h.slice
  rw [nums_length] at hv hc
  refine ⟨A, c, hv, hc, rfl, by omega, fun h0 => ?_⟩
  obtain ⟨g, hA, _, _⟩ := h.cellAt hv 0 (.int k (ns[0])) (by simp [nums, List.getElem?_eq_getElem h0])
  refine ⟨_, hA, fun j p hj => ⟨[.int k p], rfl, rfl, fun i u hu => ?_⟩⟩
  obtain ⟨rfl, rfl⟩ : i = 0 ∧ u = .int k p := by
    cases i with
    | zero => exact ⟨rfl, by simpa using hu.symm⟩
    | succ i => simp at hu
  obtain ⟨g', hA', hc', _⟩ := h.cellAt hv j (.int k p) (by simp [nums, hj])
  rw [hA] at hA'
  injection hA' with hA'
  injection hA' with hg
  subst hg
  show w.cell? ((⟨g, 0, none⟩ : Addr).add (j * 1 + 0)) = _
  rw [add_plain]; simpa using hc'
theorem Row.set (h : Row w base e v xs) {g n c : Nat} (hv : v = .slice (some ⟨g, 0, none⟩) n c) (j : Nat) (hj : j < xs.length) (u : Value) : Row (w.setCell ⟨g, j, none⟩ u) base e v (xs.set j u) := by
  rcases h with ⟨_, rfl⟩ | ⟨g', c', cur, rfl, hb, hh, h1, h2, h3, h4⟩
  · simp at hj
  · injection hv with hA _ _
    injection hA with hA
    injection hA with hg
    subst hg
    refine .inr ⟨g', c', cur.setIfInBounds j u, by rw [List.length_set], hb, ?_, by rw [List.length_set]; exact h1, by rw [Array.size_setIfInBounds]; exact h2, by rw [Array.size_setIfInBounds]; exact h3, ?_⟩
    · exact heap_setCell_same _ g' j cur e u hh
    · rw [List.length_set, Array.toList_setIfInBounds, List.take_set, h4]
end
theorem set_other {w : World} {g j k : Nat} (u : Value) (hk : k ≠ g) : (w.setCell ⟨g, j, none⟩ u).heap[k]? = w.heap[k]? := Below.heap_setCell w ⟨g, j, none⟩ u k hk

section
variable {P : Program}
theorem run_append (w : World) (base : Nat) (t ty e : TypeId) (i : TypeInfo) (z : Value) (bytes : Nat) (ht : P.underlying t = some (.slice e)) (hi : P.info? e = some i) (hz : i.zero = some z)
    (hsize : i.size = 1) (hby : i.bytes = bytes) (hzs : z.cells.size = 1) (v : Value) (xs : List Value) (hown : Row w base e v xs)
    (A : Option Addr) (c : Nat) (news : List Value) (hnews : 0 < news.length → ∃ a, A = some a ∧ ∀ j u, news[j]? = some u → w.cell? (a.add j) = some u) (h1 : ∀ u ∈ news, u.oneCell' = true)
    (hlim : xs.length + news.length ≤ 140737488355328) (hbytes : (xs.length + news.length) * bytes ≤ 140737488355328) (hbase : base ≤ w.heap.size) :
    ∃ v' w', (Builtin.append_ #[t, t] ty #[v, .slice A news.length c]).run P w = .ok v' w' ∧ Row w' base e v' (xs ++ news) ∧ w.grownBy w' v.ownBlock ∧ (v'.ownBlock = v.ownBlock ∨ ∃ b, v'.ownBlock = some b ∧ w.heap.size ≤ b) := by
  obtain ⟨A', c', rfl, hxc, hxm⟩ := hown.slice
  rcases Nat.eq_zero_or_pos news.length with h0 | h0
  · obtain rfl : news = [] := List.eq_nil_of_length_eq_zero h0
    refine ⟨_, w, ?_, by simpa using hown, World.grownBy.refl w _, .inl rfl⟩
    cases A' <;> cases A <;> simp [Builtin.append_, run_underlying ht, sizeOf, typeInfo, hi, Builtin.lenOf, hxc, Builtin.firstCells, loadCells, loadCellsFrom, storeCells]
  · obtain ⟨a, rfl, hn⟩ := hnews h0
    have grown : ∀ (old : Nat), Row (w.drew.alloc (.cells (xs.toArray ++ news.toArray ++ Builtin.zeroCells z.cells (grownCap w (xs.length + news.length) old e - (xs.length + news.length))) e)) base e
        (.slice (some ⟨w.heap.size, 0, none⟩) (xs ++ news).length (grownCap w (xs.length + news.length) old e)) (xs ++ news) := by
      intro old
      have hge := grownCap_ge w (xs.length + news.length) old e
      have hcm : grownCap w (xs.length + news.length) old e ≤ maxLen := grownCap_le_maxLen w _ old e (by simp only [maxLen]; omega)
      simp only [maxLen] at hcm
      refine .inr ⟨w.heap.size, _, _, rfl, hbase, heap_alloc_new w.drew _, by rw [List.length_append]; exact hge, ?_, ?_, ?_⟩
      · simp only [Array.size_append, List.size_toArray, size_zeroCells, hzs]; omega
      · simp only [Array.size_append, List.size_toArray, size_zeroCells, hzs]; omega
      · simp only [Array.toList_append, List.append_assoc]
        rw [← List.append_assoc]
        exact List.take_left
    have gby : ∀ (o : Obj) (row : Option Nat), w.grownBy (w.drew.alloc o) row := fun o row => ⟨rfl, rfl, rfl, by simp, fun k hk _ => heap_alloc_old w.drew o hk⟩
    rcases hown with ⟨hv, rfl⟩ | ⟨g, cc, cur, hv, hbg, hg, hnc, hcs, hcm, htake⟩
    · injection hv with hv1 hv2 hv3
      subst hv1; subst hv3
      have hr := run_append_nil (P := P) w t ty e i z ht hi hz a news.length c news (by rw [hsize, Nat.mul_one]) hn h0 (by omega) (by rw [hby]; simp only [List.length_nil, Nat.zero_add] at hbytes; omega)
      have hgr := grown 0
      simp only [List.length_nil, Nat.zero_add, List.nil_append, Array.empty_append] at hgr ⊢
      exact ⟨_, _, hr, hgr, gby _ _, .inr ⟨_, rfl, Nat.le_refl _⟩⟩
    · injection hv with hv1 hv2 hv3
      subst hv1; subst hv3
      by_cases hroom : xs.length + news.length ≤ c'
      · have hr := run_append_room (P := P) w t ty e i ht hi g xs.length c' cur hg a news.length c news (by rw [hsize, Nat.mul_one]) hn h1 hroom (by rw [hsize, Nat.mul_one]; omega)
        rw [hsize, Nat.mul_one] at hr
        refine ⟨_, _, hr, .inr ⟨g, c', _, by rw [List.length_append], hbg, setRow_heap w g cur _ e _ hg, by rw [List.length_append]; exact hroom, ?_, ?_, ?_⟩, ⟨rfl, rfl, rfl, by simp, fun k _ hk => setRow_other w g k _ (fun e => hk (by simp [Value.ownBlock, e]))⟩, .inl rfl⟩
        · simp only [List.size_toArray, List.length_append, List.length_take, List.length_drop, Array.length_toList]; omega
        · simp only [List.size_toArray, List.length_append, List.length_take, List.length_drop, Array.length_toList]; omega
        · rw [htake]
          exact List.take_left
      · have holds : ∀ j u, xs[j]? = some u → w.cell? ((⟨g, 0, none⟩ : Addr).add j) = some u := fun j u hu => by
          have hj := (List.getElem?_eq_some_iff.1 hu).1
          rw [add_plain, blk_cell hg, ← Array.getElem?_toList]
          rw [← htake, List.getElem?_take, if_pos hj] at hu
          exact hu
        have hr := run_append_grow (P := P) w t ty e i z ht hi hz ⟨g, 0, none⟩ xs.length c' xs (by rw [hsize, Nat.mul_one]) holds a news.length c news (by rw [hsize, Nat.mul_one]) hn (by omega) (by omega) (by rw [hby]; exact growslice_fits (by omega) hbytes)
        have hgr := grown c'
        rw [List.length_append] at hgr
        exact ⟨_, _, hr, hgr, gby _ _, .inr ⟨_, rfl, Nat.le_refl _⟩⟩

theorem wpList_append_run {w w' : World} {ops : Array Oper} {rest : List Oper} {o : Oper} {a : Act} {Q : Exit → Act → World → Prop} (hgd : o.guard = none) (s x : Operand) (t : TypeId)
    (ho : o.op = .call { callee := .builtin .append, args := #[s, x], argTypes := #[t, t] }) (vs vx v' : Value) (hs : a.eval s = vs) (hx : a.eval x = vx) (hr : (Builtin.append_ #[t, t] o.type #[vs, vx]).run P w = .ok v' w')
    (h : wpList P ops Q rest (a.put o.dst v') w') : wpList P ops Q (o :: rest) a w := by
  refine wpList_plain hgd fun K hK => ?_
  unfold Oper.wp execOp
  simp only [ho, resolve, invoke, builtin, Sem.run_bind, Sem.run_pure, Result.andThen_ok, List.map_toArray, List.map_cons, List.map_nil, hs, hx, hr]
  exact hK _ _ h

/-- x[:m:m] of such a row. -/
theorem run_cut3 (w : World) (t e : TypeId) (ht : P.underlying t = some (.slice e)) {i : TypeInfo} (hi : P.info? e = some i) {base : Nat} {v : Value} {xs : List Value} (h : Row w base e v xs) (m : Nat) (hm : m ≤ xs.length) (k1 k2 : IntKind) :
    ∃ v', (∀ W : World, (Instr.slice t v none (some (.int k1 m)) (some (.int k2 m))).run P W = .ok v' W) ∧ Row w base e v' (xs.take m) ∧ v'.ownBlock = v.ownBlock := by
  obtain ⟨A, c, hv, hc, hcm⟩ := h.slice
  subst hv
  have hel : P.elem t = e := by simp [Program.elem, ht]
  refine ⟨.slice A m m, fun W => ?_, ?_, ?_⟩
  · have ha : (A.map fun x => x.add 0) = A := by cases A <;> simp [Addr.add]
    have h1 : (m : Int) ≤ (c : Int) := by omega
    simp [Instr.slice, run_underlying ht, Instr.sliceBounds, run_sliceBound, h1, sizeOf, typeInfo, hi, Result.andThen]
    exact fun _ => ha
  · rcases h with ⟨hv, rfl⟩ | ⟨g, c', cur, hv, hb, hh, h1, h2, h3, h4⟩
    · injection hv with hA hn hc'
      obtain rfl : m = 0 := by simpa using hm
      subst hA
      exact .inl ⟨rfl, rfl⟩
    · injection hv with hA hn hc'
      subst hA
      have hl : (xs.take m).length = m := by rw [List.length_take]; omega
      refine .inr ⟨g, m, cur, by rw [hl], hb, hh, by omega, by omega, h3, ?_⟩
      rw [hl, ← h4, List.take_take, Nat.min_eq_left hm]
  · cases A <;> rfl
end
end Go.Proofs.YtiinelmednbpmaaGreat.Row
