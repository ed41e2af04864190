import Derived.Test.YtcjhllpbbbjaiaaWinPl
/- Rows of changes, rows of places, as they are read; what is taken away of a map. -/
namespace Go.Proofs.Ytcjhllpbbbjaiaa.Win
open Go.RowKit Go.Maps Go.Proofs.YtcjhllpbbbjaiaaW.PrintWords Go.Proofs.YtcjhllpbbbjaiaaW.PrintMore Go.Proofs.Ytcjhllpbbbjaiaa.Cut
abbrev T5 := Int × Int × Int × Int × Bool
def encC (x : T5) : List Value := [.int .i64 x.1, .int .i64 x.2.1, .int .i64 x.2.2.1, .int .i64 x.2.2.2.1, .bool x.2.2.2.2]
abbrev K5 : Kd T5 := Kd.pair (Kd.int .i64) (Kd.pair (Kd.int .i64) (Kd.pair (Kd.int .i64) (Kd.pair (Kd.int .i64) Kd.bool)))
theorem K5_M (w : World) (base : Nat) (ok : Nat → Prop) (x : T5) : K5.M w base ok x (encC x) := ⟨[.int .i64 x.1], _, rfl, rfl, ⟨[.int .i64 x.2.1], _, rfl, rfl, ⟨[.int .i64 x.2.2.1], _, rfl, rfl, ⟨[.int .i64 x.2.2.2.1], _, rfl, rfl, rfl⟩⟩⟩⟩
theorem at_C5 {w : World} {A : Option Addr} {n : Nat} {l : List T5} (h : K5.C w A n l) (i : Nat) (hi : i < n) : ∃ ad x, A = some ad ∧ l[i]? = some x ∧ w.cell? (ad.add (i * 5)) = some (.int .i64 x.1) ∧ w.cell? ⟨(ad.add (i * 5)).block, (ad.add (i * 5)).off + 1, none⟩ = some (.int .i64 x.2.1) ∧
    w.cell? ⟨(ad.add (i * 5)).block, (ad.add (i * 5)).off + 2, none⟩ = some (.int .i64 x.2.2.1) ∧ w.cell? ⟨(ad.add (i * 5)).block, (ad.add (i * 5)).off + 3, none⟩ = some (.int .i64 x.2.2.2.1) ∧ w.cell? ⟨(ad.add (i * 5)).block, (ad.add (i * 5)).off + 4, none⟩ = some (.bool x.2.2.2.2) := by
  obtain ⟨hl, _, h⟩ := h
  obtain ⟨ad, hA, hc⟩ := h (by omega)
  have hil : i < l.length := by omega
  obtain ⟨cs, _, hk, hat⟩ := hc i (l[i]) (List.getElem?_eq_getElem hil)
  have e1 : K5.sz = 5 := rfl
  rw [e1] at hat
  obtain ⟨_, _, rfl, rfl, ⟨_, _, rfl, rfl, ⟨_, _, rfl, rfl, ⟨_, _, rfl, rfl, rfl⟩⟩⟩⟩ := hk
  refine ⟨ad, l[i], hA, List.getElem?_eq_getElem hil, hat 0 _ rfl, ?_, ?_, ?_, ?_⟩
  · rw [← add_field _ _ 1 (by omega)]; exact hat 1 _ rfl
  · rw [← add_field _ _ 2 (by omega)]; exact hat 2 _ rfl
  · rw [← add_field _ _ 3 (by omega)]; exact hat 3 _ rfl
  · rw [← add_field _ _ 4 (by omega)]; exact hat 4 _ rfl
theorem at_C2 {w : World} {A : Option Addr} {n : Nat} {l : List P2} (h : K2.C w A n l) (i : Nat) (hi : i < n) : ∃ ad x, A = some ad ∧ l[i]? = some x ∧ w.cell? (ad.add (i * 2)) = some (.int .i64 x.1) ∧ w.cell? ⟨(ad.add (i * 2)).block, (ad.add (i * 2)).off + 1, none⟩ = some (.int .i64 x.2) := by
  obtain ⟨hl, _, h⟩ := h
  obtain ⟨ad, hA, hc⟩ := h (by omega)
  have hil : i < l.length := by omega
  obtain ⟨cs, _, hk, hat⟩ := hc i (l[i]) (List.getElem?_eq_getElem hil)
  have e1 : K2.sz = 2 := rfl
  rw [e1] at hat
  obtain ⟨_, _, rfl, rfl, rfl⟩ := hk
  refine ⟨ad, l[i], hA, List.getElem?_eq_getElem hil, hat 0 _ rfl, ?_⟩
  rw [← add_field _ _ 1 (by omega)]; exact hat 1 _ rfl
def chgT (size : Int) (x : P2 × Int) (d : Bool) : T5 := (x.1.2, x.1.1, x.1.1 + size, x.2, d)
theorem infoC : (Try.prog.info? 30).map (fun i => (i.zero, i.size, i.bytes)) = some (some (.agg #[.int .i64 0, .int .i64 0, .int .i64 0, .int .i64 0, .bool false]), 5, 40) := by kernel_rfl
theorem del_len {m : St} (hs : Sorted m) (p : P2) : (del p m).length + (if (look m p).isSome = true then 1 else 0) = m.length := by
  induction m with
  | nil => simp [del, look]
  | cons y r ih =>
    obtain ⟨h1, h2⟩ := List.pairwise_cons.1 hs
    have ih := ih h2
    unfold del at ih ⊢
    by_cases e : y.1 = p
    · have hn : look r p = none := look_none.2 fun x hx e' => by
        have := h1 x hx
        rw [e, e'] at this; exact ltW_irr _ this
      rw [List.filter_cons_of_neg (by simpa using e), look, if_pos e]
      rw [hn] at ih
      simp at ih ⊢
      omega
    · rw [List.filter_cons_of_pos (by simpa using e), look, if_neg e]
      simp only [List.length_cons] at ih ⊢
      omega
theorem Agr.del {D : DataW Unit} {m : St} (h : Agr D m) (hs : Sorted m) {p : P2} (hp : W2 p) : Agr (D.del (kl2 p)) (del p m) := by
  refine ⟨h.1.del _, ?_, fun q hq => ?_⟩
  · have h1 := Maps.size_del (k := kl2 p) h.1
    have h2 := del_len hs p
    rw [(h.2.2 p hp).2, h.2.1] at h1
    omega
  · rw [look_del p q m]
    by_cases e : p = q
    · subst e
      rw [if_pos rfl, Maps.atKey_del_same, Maps.has_del_same]
      exact ⟨rfl, rfl⟩
    · have hne : kl2 q ≠ kl2 p := fun h' => e (kl2_inj hp hq h'.symm)
      rw [if_neg e, Maps.atKey_del_other hne, Maps.has_del_other hne]
      exact h.2.2 q hq
theorem Own.drop {w : World} {s : Nat} {room size : Int} {b : Nat} {m : St} (h : Own w s room size b m) {p : P2} (hp : W2 p) (ty : TypeId) :
    ∃ w2, (Builtin.delete_ #[50, 54] ty #[.map (some b), val2 p]).run Try.prog w = .ok (.tuple #[]) w2 ∧ Own w2 s room size b (del p m) ∧ w.grownBy w2 (some b) ∧ w2.heap.size = w.heap.size := by
  obtain ⟨D, hD, hA⟩ := h.map
  have hr := h.rng
  obtain ⟨w2, hrun, hD2, hT⟩ := hD.drop keyedP Try.underlying50 (keyOf_2 hp) ty
  have hA2 := hA.del h.sorted hp
  have hg := hT.grown
  have hz : w2.heap.size = w.heap.size := by
    obtain ⟨_, _, _, _, _, rfl⟩ := hT
    simp [Go.ChangeMaps.setBlock]
  have hle := h.fits
  have hlen := del_len h.sorted p
  have hlen2 : (Win.del p m).length ≤ m.length := by omega
  refine ⟨w2, hrun, ⟨?_, ⟨_, ?_, hA2⟩, sorted_del p h.sorted, ?_, hr, by omega⟩, hg, hz⟩
  · refine (hg.block s h.lt.1 ?_).trans h.row
    intro e
    exact h.lt.2.2 (Option.some.inj e)
  · have hsz := hA2.2.1
    obtain ⟨es, clock, hb, F, _, hDe⟩ := hD2
    refine ⟨es, clock, hb, F, ?_, hDe⟩
    rw [hDe] at hsz
    rw [← hsz, Maps.size_eq, length_sorted]
    simp
  · intro x hx
    exact h.wf x (List.mem_filter.1 hx).1
theorem Own.ne_row {w : World} {s : Nat} {room size : Int} {b : Nat} {m : St} (h : Own w s room size b m) {base e n sz : Nat} {v : Value} {xs : List Value} (hr : w.ownsRow base e sz v n xs) (he : e ≠ 52) : some s ≠ v.ownBlock ∧ some b ≠ v.ownBlock := by
  obtain ⟨D, ⟨_, _, hb, _⟩, _⟩ := h.map
  refine ⟨fun e1 => ?_, fun e1 => ?_⟩
  · obtain ⟨cells, hc⟩ := own_typed hr s e1.symm
    rw [h.row] at hc
    injection hc with hc
    injection hc with _ hc
    exact he hc.symm
  · obtain ⟨cells, hc⟩ := own_typed hr b e1.symm
    rw [hb] at hc
    cases hc
theorem rows_ne {w : World} {base e n sz base' e' n' sz' : Nat} {v v' : Value} {xs xs' : List Value} (h : w.ownsRow base e sz v n xs) (h' : w.ownsRow base' e' sz' v' n' xs') (he : e ≠ e') : v'.ownBlock = none ∨ v'.ownBlock ≠ v.ownBlock := by
  cases hk : v'.ownBlock with
  | none => exact .inl rfl
  | some k =>
    refine .inr fun e1 => ?_
    obtain ⟨c1, hc1⟩ := own_typed h k e1.symm
    obtain ⟨c2, hc2⟩ := own_typed h' k hk
    rw [hc1] at hc2
    injection hc2 with hc2
    injection hc2 with _ hc2
    exact he hc2
end Go.Proofs.Ytcjhllpbbbjaiaa.Win
