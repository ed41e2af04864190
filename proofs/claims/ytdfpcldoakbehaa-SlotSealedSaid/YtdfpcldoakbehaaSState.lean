import Derived.Test.YtdfpcldoakbehaaSRdB
import Derived.Test.YtdfpcldoakbehaaSSeg
import Derived.Test.YtdfpcldoakbehaaSOwn
import Derived.Maps.OwnSet
import Derived.Maps.RangeWalk
import Derived.Maps.Views
import Derived.WalkArith
/- A node in memory. -/
namespace Go.Proofs.Ytdfpcldoakbehaa.Slot
open Go.RowKit Go.Maps Go.Proofs.YtdfpcldoakbehaaW.PrintWords Go.Proofs.YtdfpcldoakbehaaW.PrintMore Go.Proofs.Ytdfpcldoakbehaa.Row Go.Proofs.Ytdfpcldoakbehaa.Cut Go.Proofs.Ytdfpcldoakbehaa.DiskM Go.Proofs.Ytdfpcldoakbehaa.Quor
abbrev W64 (a : Int) : Prop := (Lit.int .i64 a).wf = true
theorem w64_of {a : Int} (h0 : -9223372036854775808 ≤ a) (h1 : a ≤ 9223372036854775807) : W64 a := WalkArith.wf_i64 ⟨h0, h1⟩
theorem keyedI : Keyed Try.prog 3 := int_keyed Try.underlying3
theorem keyOf_I {a : Int} (h : W64 a) : keyOf Try.prog 3 (.int .i64 a) = some (.int .i64 a) := keyOf_int_mk Try.underlying3 h
theorem isKeyI {a : Int} (h : W64 a) : WideAt.IsKeyLit (.int .i64 a) := keyedI.key (keyOf_I h)
def RC4 (v : Value) : Option (DataW Value × List MemPlace) :=
  match v with
  | .agg ⟨[.int .i64 _, .int .i64 _, .slice _ _ _]⟩ => some (.held v, [])
  | _ => none
theorem RC4_mk (z : C4) : RC4 (agg4 z) = some (.held (agg4 z), []) := rfl
theorem RC4_inv {v : Value} {y : DataW Value × List MemPlace} (h : RC4 v = some y) : y = (.held v, []) := by
  unfold RC4 at h
  split at h
  · exact (Option.some.inj h).symm
  · cases h
def zero4 : Value := .agg #[.int .i64 0, .int .i64 0, .slice none 0 0]
def look4 (m : List C4) (a : Int) : Option C4 := m.find? fun z => decide (z.at_ = a)
def put4 (z : C4) (m : List C4) : List C4 := z :: m.filter fun x => decide (x.at_ ≠ z.at_)
def val4 (o : Option C4) : Value := o.elim zero4 agg4
theorem look_map (m : List C4) (a : Int) : look (m.map C4.c3) a = (look4 m a).map C4.c3 := by
  unfold look look4
  rw [List.find?_map]; rfl
theorem put_map (z : C4) (m : List C4) : putC z.c3 (m.map C4.c3) = (put4 z m).map C4.c3 := by
  unfold putC put4
  rw [List.map_cons, List.filter_map]; rfl
theorem look4_mem {m : List C4} {a : Int} {z : C4} (h : look4 m a = some z) : z ∈ m ∧ z.at_ = a := by
  unfold look4 at h
  have h2 := List.find?_some h
  exact ⟨List.mem_of_find?_eq_some h, of_decide_eq_true h2⟩
theorem look4_put (z : C4) (m : List C4) (a : Int) : look4 (put4 z m) a = if z.at_ = a then some z else look4 m a := by
  unfold look4 put4
  rw [List.find?_cons]
  by_cases h : z.at_ = a
  · simp [h]
  · rw [if_neg h, decide_eq_false h]
    simp only
    rw [List.find?_filter]
    congr 1
    funext x
    by_cases hx : x.at_ = a
    · have h' : ¬ a = z.at_ := fun e => h e.symm
      simp [hx, h']
    · simp [hx]
theorem mem_put4 {z x : C4} {m : List C4} (h : x ∈ put4 z m) : x = z ∨ x ∈ m := by
  unfold put4 at h
  rcases List.mem_cons.1 h with h | h
  · exact .inl h
  · exact .inr (List.mem_filter.1 h).1
theorem put4_len {m : List C4} (h : Once (m.map C4.c3)) (z : C4) : (put4 z m).length = if (look4 m z.at_).isSome then m.length else m.length + 1 := by
  have h1 := put_len h z.c3
  rw [put_map, List.length_map, List.length_map, show z.c3.1 = z.at_ from rfl, look_map] at h1
  rw [h1]
  cases look4 m z.at_ <;> rfl
/-- The map's datum tells just the cells. -/
def Agr (D : DataW Value) (m : List C4) : Prop := Maps.Tidy D ∧ Maps.size D = m.length ∧ ∀ a, W64 a → D.atKey (.int .i64 a) (.held zero4) = .held (val4 (look4 m a)) ∧ Maps.has D (.int .i64 a) = (look4 m a).isSome
theorem Agr.nil : Agr (.map []) [] := ⟨Maps.tidy_empty, rfl, fun _ _ => ⟨rfl, rfl⟩⟩
theorem Agr.put {D : DataW Value} {m : List C4} (h : Agr D m) (ho : Once (m.map C4.c3)) {z : C4} (hz : W64 z.at_) : Agr (D.put (.int .i64 z.at_) (.held (agg4 z))) (put4 z m) := by
  refine ⟨h.1.put (isKeyI hz) _, ?_, fun a ha => ?_⟩
  · rw [Maps.size_put h.1, (h.2.2 _ hz).2, put4_len ho, h.2.1]
  · rw [look4_put]
    by_cases e : z.at_ = a
    · subst e
      rw [if_pos rfl, Maps.atKey_put_same h.1.isMap (isKeyI hz), Maps.has_put_same h.1.isMap (isKeyI hz)]
      exact ⟨rfl, rfl⟩
    · have hne : (Lit.int .i64 a) ≠ .int .i64 z.at_ := fun h' => e (by injection h' with _ h'; exact h'.symm)
      rw [if_neg e, Maps.atKey_put_other hne, Maps.has_put_other hne]
      exact h.2.2 a ha
/-- A node's blocks. -/
structure NB where
  gn : Nat
  sg : Nat
  gd : Nat
  mb : Nat
  vr : Value
  vd : Value
def SN (n : NB) (k : Nat) : Prop := SS n.sg n.gd n.vr n.vd k ∨ k = n.gn ∨ k = n.mb
abbrev sl4 (z : C4) : Value := .slice z.A z.by_.length z.c
structure Nd (w0 w : World) (n : NB) (room : Int) (bs : List Int) (safe : Nat) (ep : Int) (m : List C4) : Prop where
  seg : Sg w0 w n.sg n.gd n.vr n.vd room bs safe
  lown : w0.heap.size ≤ n.gn
  lowm : w0.heap.size ≤ n.mb
  blk : w.heap[n.gn]? = some (.cells #[.pointer (some ⟨n.sg, 0, none⟩), .int .i64 ep, .map (some n.mb)] 56 (0, 0))
  map : ∃ D, w.ownsMap Try.prog 3 RC4 n.mb m.length D ∧ Agr D m
  once : Once (m.map C4.c3)
  rows : ∀ z ∈ m, Row w w0.heap.size 5 (sl4 z) (nums .u8 z.by_) ∧ ∀ k, (sl4 z).ownBlock = some k → some k ≠ n.vd.ownBlock
  rng : 0 ≤ ep ∧ ep ≤ 1048576
  rngc : ∀ z ∈ m, (0 ≤ z.at_ ∧ z.at_ ≤ 4095) ∧ (0 ≤ z.ep ∧ z.ep ≤ 1048576) ∧ z.by_.length ≤ 2048 ∧ ∀ x ∈ z.by_, 0 ≤ x ∧ x ≤ 255
section
variable {w0 w w' : World} {sg gd : Nat} {vr vd : Value} {room : Int} {bs : List Int} {safe : Nat} {n : NB} {ep : Int} {m : List C4}
theorem Sg.typed (h : Sg w0 w sg gd vr vd room bs safe) {k : Nat} (hk : SS sg gd vr vd k) : ∃ cs ty, w.heap[k]? = some (.cells cs ty (0, 0)) ∧ ty ≠ 56 ∧ ty ≠ 89 ∧ ty ≠ 34 := by
  obtain ⟨t, hb⟩ := h.blk
  obtain ⟨xs, hr, _, _⟩ := h.row
  rcases hk with rfl | e | rfl | e
  · exact ⟨_, _, h.disk.blk, by decide, by decide, by decide⟩
  · obtain ⟨_, _, cur, hc⟩ := h.disk.row.lt k e.symm
    exact ⟨_, _, hc, by decide, by decide, by decide⟩
  · exact ⟨_, _, hb, by decide, by decide, by decide⟩
  · obtain ⟨_, _, cur, hc⟩ := hr.lt k e.symm
    exact ⟨_, _, hc, by decide, by decide, by decide⟩
theorem Sg.keep (h : Sg w0 w sg gd vr vd room bs safe) (hb : Below w0.heap.size w0 w') (hk : ∀ k, SS sg gd vr vd k → w'.heap[k]? = w.heap[k]?) : Sg w0 w' sg gd vr vd room bs safe := by
  obtain ⟨t, hs⟩ := h.blk
  obtain ⟨xs, hr, hx, h1⟩ := h.row
  have D := h.disk
  exact ⟨⟨hb, D.kg, (hk _ (.inl rfl)).trans D.blk, D.row.move fun k e => hk k (.inr (.inl e.symm)), D.room1, D.fit, D.sf, D.byte⟩, h.low, ⟨t, (hk _ (.inr (.inr (.inl rfl)))).trans hs⟩, ⟨xs, hr.move fun k e => hk k (.inr (.inr (.inr e.symm))), hx, h1⟩⟩
theorem Nd.lt (h : Nd w0 w n room bs safe ep m) {k : Nat} (hk : SN n k) : k < w.heap.size := by
  rcases hk with e | rfl | rfl
  · obtain ⟨_, _, hc, _⟩ := h.seg.typed e
    exact (Array.getElem?_eq_some_iff.1 hc).1
  · exact (Array.getElem?_eq_some_iff.1 h.blk).1
  · obtain ⟨D, hD, _⟩ := h.map
    exact hD.lt
theorem Nd.low (h : Nd w0 w n room bs safe ep m) {k : Nat} (hk : SN n k) : w0.heap.size ≤ k := by
  rcases hk with e | rfl | rfl
  · obtain ⟨xs, hr, _, _⟩ := h.seg.row
    rcases e with rfl | e | rfl | e
    · exact h.seg.disk.kg
    · exact (h.seg.disk.row.lt k e.symm).1
    · exact h.seg.low
    · exact (hr.lt k e.symm).1
  · exact h.lown
  · exact h.lowm
/-- The map's block is no row of cells. -/
theorem Nd.map_ne (h : Nd w0 w n room bs safe ep m) {k : Nat} {cs : Array Value} {ty : TypeId} {fr : Nat × Nat} (hk : w.heap[k]? = some (.cells cs ty fr)) : k ≠ n.mb := by
  intro e
  obtain ⟨D, ⟨es, clock, hb, _⟩, _⟩ := h.map
  rw [e, hb] at hk
  cases hk
theorem Nd.cells (h : Nd w0 w n room bs safe ep m) : w.cell? ⟨n.gn, 0, none⟩ = some (.pointer (some ⟨n.sg, 0, none⟩)) ∧ w.cell? ⟨n.gn, 1, none⟩ = some (.int .i64 ep) ∧ w.cell? ⟨n.gn, 2, none⟩ = some (.map (some n.mb)) ∧ ∀ i, w.frozen? ⟨n.gn, i, none⟩ = false :=
  ⟨(blk_cell h.blk 0).trans rfl, (blk_cell h.blk 1).trans rfl, (blk_cell h.blk 2).trans rfl, fun i => blk_frozen h.blk i⟩
theorem Nd.below (h : Nd w0 w n room bs safe ep m) (hb : Below w.heap.size w w') : Nd w0 w' n room bs safe ep m := by
  obtain ⟨D, hD, hA⟩ := h.map
  exact ⟨h.seg.below hb, h.lown, h.lowm, (hb.block _ (Array.getElem?_eq_some_iff.1 h.blk).1).trans h.blk, ⟨D, hD.kept (grown_of_below hb) (by simp), hA⟩, h.once, fun z hz => ⟨(h.rows z hz).1.below hb, (h.rows z hz).2⟩, h.rng, h.rngc⟩
/-- The epoch is turned. -/
theorem Nd.epoch (h : Nd w0 w n room bs safe ep m) (e : Int) (he : 0 ≤ e ∧ e ≤ 1048576) : Nd w0 (w.setCell ⟨n.gn, 1, none⟩ (.int .i64 e)) n room bs safe e m := by
  obtain ⟨D, hD, hA⟩ := h.map
  have hk : ∀ k, k ≠ n.gn → (w.setCell ⟨n.gn, 1, none⟩ (.int .i64 e)).heap[k]? = w.heap[k]? := fun k hk => Below.heap_setCell w ⟨n.gn, 1, none⟩ _ k hk
  refine ⟨h.seg.keep (below_set h.seg.disk.below h.lown) fun k hs => hk k ?_, h.lown, h.lowm, heap_setCell_same w n.gn 1 _ 56 _ h.blk, ⟨D, hD.kept (grown_set w n.gn 1 _) ?_, hA⟩, h.once, fun z hz => ⟨(h.rows z hz).1.move fun k hr => hk k ?_, (h.rows z hz).2⟩, he, h.rngc⟩
  · obtain ⟨cs, ty, hc, h1, _⟩ := h.seg.typed hs
    exact blk_ne hc h.blk h1
  · intro e
    exact h.map_ne h.blk (Option.some.inj e).symm
  · obtain ⟨_, _, cur, hc⟩ := (h.rows z hz).1.lt k hr
    exact blk_ne hc h.blk (by decide)
theorem Nd.few (h : Nd w0 w n room bs safe ep m) : m.length ≤ 4096 := by
  have h1 := nodup_le 4096 (m.map C4.at_) ?_ ?_
  · rwa [List.length_map] at h1
  · have := h.once
    unfold Once at this
    rw [List.pairwise_map] at this ⊢
    exact this
  · intro x hx
    obtain ⟨z, hz, rfl⟩ := List.mem_map.1 hx
    have := (h.rngc z hz).1
    omega
/-- A cell is put: w2 is w with the map turned. -/
theorem Nd.put (h : Nd w0 w n room bs safe ep m) (z : C4) (hrow : Row w w0.heap.size 5 (sl4 z) (nums .u8 z.by_)) (hne : ∀ k, (sl4 z).ownBlock = some k → some k ≠ n.vd.ownBlock)
    (hz : (0 ≤ z.at_ ∧ z.at_ ≤ 4095) ∧ (0 ≤ z.ep ∧ z.ep ≤ 1048576) ∧ z.by_.length ≤ 2048 ∧ ∀ x ∈ z.by_, 0 ≤ x ∧ x ≤ 255) :
    ∃ w2, (Instr.mapUpdate 54 (.map (some n.mb)) (.int .i64 z.at_) (agg4 z)).run Try.prog w = .ok () w2 ∧ Nd w0 w2 n room bs safe ep (put4 z m) ∧ w.grownBy w2 (some n.mb) := by
  obtain ⟨D, hD, hA⟩ := h.map
  have hm := h.few
  have hw := w64_of (a := z.at_) (by omega) (by omega)
  obtain ⟨w2, hrun, hD2, hg⟩ := hD.update keyedI Try.underlying54 (by unfold maxLen; omega) (keyOf_I hw) (RC4_mk z)
  have hk : ∀ k, k < w.heap.size → k ≠ n.mb → w2.heap[k]? = w.heap[k]? := fun k hk hn => hg.block k hk (fun e => hn (Option.some.inj e))
  have hA2 := hA.put h.once hw
  have hD3 : w2.ownsMap Try.prog 3 RC4 n.mb (put4 z m).length (D.put (.int .i64 z.at_) (.held (agg4 z))) := by
    have hsz := hA2.2.1
    obtain ⟨es, clock, hb, F, _, hDe⟩ := hD2
    refine ⟨es, clock, hb, F, ?_, hDe⟩
    rw [hDe] at hsz
    rw [← hsz, Maps.size_eq, length_sorted]
    simp
  refine ⟨w2, hrun, ⟨h.seg.keep (h.seg.disk.below.grown hg h.seg.disk.below.size fun k e => ?_) fun k hs => ?_, h.lown, h.lowm, ?_, ⟨_, hD3, hA2⟩, ?_, fun x hx => ?_, h.rng, fun x hx => ?_⟩, hg⟩
  · obtain rfl := Option.some.inj e
    exact h.lowm
  · obtain ⟨cs, ty, hc, _⟩ := h.seg.typed hs
    exact hk k (Array.getElem?_eq_some_iff.1 hc).1 (h.map_ne hc)
  · exact (hk _ (Array.getElem?_eq_some_iff.1 h.blk).1 (h.map_ne h.blk)).trans h.blk
  · rw [← put_map]; exact h.once.put _
  · have hr : Row w w0.heap.size 5 (sl4 x) (nums .u8 x.by_) ∧ ∀ k, (sl4 x).ownBlock = some k → some k ≠ n.vd.ownBlock := by
      rcases mem_put4 hx with rfl | hx
      · exact ⟨hrow, hne⟩
      · exact h.rows x hx
    refine ⟨hr.1.move fun k e => ?_, hr.2⟩
    obtain ⟨_, hlt, cur, hc⟩ := hr.1.lt k e
    exact hk k hlt (h.map_ne hc)
  · rcases mem_put4 hx with rfl | hx
    · exact hz
    · exact h.rngc x hx
/-- The lookup of a slot. -/
theorem Nd.lookup (h : Nd w0 w n room bs safe ep m) {a : Int} (ha : W64 a) : (Instr.lookup 54 (.map (some n.mb)) (.int .i64 a) true).run Try.prog w = .ok (.tuple #[val4 (look4 m a), .bool (look4 m a).isSome]) w := by
  obtain ⟨D, hD, hA⟩ := h.map
  obtain ⟨v, ps, hrun, hv⟩ := hD.look_ok keyedI Try.underlying54 (z := zero4) (by kernel_rfl) (RC4_mk ⟨0, 0, [], none, 0⟩) (keyOf_I ha)
  have hc := RC4_inv hv
  have h1 : D.atKey (.int .i64 a) (.held zero4) = .held v := congrArg Prod.fst hc
  rw [(hA.2.2 a ha).1] at h1
  rw [(hA.2.2 a ha).2] at hrun
  have h2 : val4 (look4 m a) = v := by injection h1
  rw [h2]; exact hrun
end
end Go.Proofs.Ytdfpcldoakbehaa.Slot
