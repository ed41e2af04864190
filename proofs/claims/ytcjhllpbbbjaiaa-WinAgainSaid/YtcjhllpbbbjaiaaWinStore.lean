import Derived.Test.YtcjhllpbbbjaiaaWinMap
import Derived.Test.YtcjhllpbbbjaiaaWWords
import Derived.Test.YtcjhllpbbbjaiaaWMore
import Derived.Maps.OwnSet
import Derived.Maps.AppendAt
import Derived.WalkKit
import Derived.BigQuiet
import Derived.Deep.QuietTactic
import Derived.Deep.RegionWith
import Derived.Lib.Hide
/- A store in memory: New, Start, Len. -/
namespace Go.Proofs.Ytcjhllpbbbjaiaa.Win
open Go.RowKit Go.Maps Go.Proofs.YtcjhllpbbbjaiaaW.PrintWords
noncomputable abbrev PE : Value → Option (DataW Unit × List MemPlace) := plainElem Try.prog 2
def kl2 (p : P2) : Lit := klP p.1 p.2
def val2 (p : P2) : Value := mkP p.1 p.2
def W2 (p : P2) : Prop := W64 p.1 ∧ W64 p.2
theorem keyOf_2 {p : P2} (h : W2 p) : keyOf Try.prog 54 (val2 p) = some (kl2 p) := keyOf_mk h.1 h.2
theorem kl2_inj {p q : P2} (hp : W2 p) (hq : W2 q) (h : kl2 p = kl2 q) : p = q := by
  have e := keyedP.inj (keyOf_2 hp) (h ▸ keyOf_2 hq)
  obtain ⟨a, b⟩ := p
  obtain ⟨d, e1⟩ := q
  simp only [val2, mkP, Value.agg.injEq, Array.mk.injEq, List.cons.injEq, Value.int.injEq, true_and, and_true] at e
  obtain ⟨rfl, rfl⟩ := e
  rfl
theorem isKey2 {p : P2} (hp : W2 p) : WideAt.IsKeyLit (kl2 p) := keyedP.key (keyOf_2 hp)
/-- The datum tells just the store. -/
def Agr (D : DataW Unit) (m : St) : Prop := Maps.Tidy D ∧ Maps.size D = m.length ∧ ∀ p, W2 p → D.atKey (kl2 p) (.lit (.int .i64 0)) = .lit (.int .i64 ((look m p).getD 0)) ∧ Maps.has D (kl2 p) = (look m p).isSome
theorem Agr.nil : Agr (.map []) [] := ⟨Maps.tidy_empty, rfl, fun _ _ => ⟨rfl, rfl⟩⟩
theorem Agr.put {D : DataW Unit} {m : St} (h : Agr D m) (hs : Sorted m) {p : P2} (hp : W2 p) (v : Int) : Agr (D.put (kl2 p) (.lit (.int .i64 v))) (put p v m) := by
  refine ⟨h.1.put (isKey2 hp) _, ?_, fun q hq => ?_⟩
  · rw [Maps.size_put h.1, (h.2.2 p hp).2, put_len p v hs, h.2.1]
  · rw [look_put p q v hs]
    by_cases e : p = q
    · subst e
      rw [if_pos rfl, Maps.atKey_put_same h.1.isMap (isKey2 hp), Maps.has_put_same h.1.isMap (isKey2 hp)]
      exact ⟨rfl, rfl⟩
    · have hne : kl2 q ≠ kl2 p := fun h' => e (kl2_inj hp hq h'.symm)
      rw [if_neg e, Maps.atKey_put_other hne, Maps.has_put_other hne]
      exact h.2.2 q hq
def startF (size time : Int) : Int := if time < 0 ∨ 1099511627776 < time then -1 else time - time % size
theorem startF_idem {size time : Int} (hs : 1 ≤ size) (h : 0 ≤ startF size time) : startF size (startF size time) = startF size time := by
  unfold startF at h ⊢
  split at h
  · omega
  · rename_i hn
    rw [if_neg hn]
    have e2 := Int.emod_nonneg time (show size ≠ 0 by omega)
    have e4 : time % size ≤ time := by
      have h1 := Int.mul_ediv_add_emod time size
      have h2 : 0 ≤ size * (time / size) := Int.mul_nonneg (by omega) (Int.ediv_nonneg (by omega) (by omega))
      omega
    rw [if_neg (by omega)]
    have e3 : (time - time % size) % size = 0 := Int.emod_eq_zero_of_dvd (Int.dvd_self_sub_emod ..)
    omega
theorem startF_le {size time : Int} (hs : 1 ≤ size) : startF size time ≤ 1099511627776 := by
  unfold startF
  split
  · omega
  · have e2 := Int.emod_nonneg time (show size ≠ 0 by omega)
    omega
/-- A store lies at block s; its map at block b. -/
structure Own (w : World) (s : Nat) (room size : Int) (b : Nat) (m : St) : Prop where
  row : w.heap[s]? = some (.cells #[.int .i64 room, .int .i64 size, .map (some b)] 52 (0, 0))
  map : ∃ D, w.ownsMap Try.prog 54 PE b m.length D ∧ Agr D m
  sorted : Sorted m
  wf : ∀ x ∈ m, W2 x.1 ∧ W64 x.2 ∧ 0 ≤ x.1.1 ∧ startF size x.1.1 = x.1.1
  rng : 1 ≤ room ∧ room ≤ 1024 ∧ 1 ≤ size ∧ size ≤ 1048576
  fits : (m.length : Int) ≤ room
theorem Own.cells {w : World} {s : Nat} {room size : Int} {b : Nat} {m : St} (h : Own w s room size b m) : w.cell? ⟨s, 0, none⟩ = some (.int .i64 room) ∧ w.cell? ⟨s, 1, none⟩ = some (.int .i64 size) ∧ w.cell? ⟨s, 2, none⟩ = some (.map (some b)) := by
  unfold World.cell?
  simp [h.row]
set_option maxHeartbeats 1000000 in
theorem start_calls {w : World} {s : Nat} {room size : Int} {b : Nat} {m : St} (h : Own w s room size b m) (time : Int) :
    Calls Try.prog 12 #[.pointer (some ⟨s, 0, none⟩), .int .i64 time] w fun e w' => e = .returned (.int .i64 (startF size time)) ∧ w' = w := by
  obtain ⟨c0, c1, c2⟩ := h.cells
  have hr := h.rng
  clear h
  unfold startF
  by_cases h1 : time < 0
  · rw [if_pos (.inl h1)]
    go_enter Try.func12, Try.ntmps12
    go_wp2
    go_ret
    simp
  · by_cases h2 : 1099511627776 < time
    · rw [if_pos (.inr h2)]
      go_enter Try.func12, Try.ntmps12
      go_wp2
      go_ret
      simp
    · rw [if_neg (by omega)]
      have hz : size ≠ 0 := by omega
      have e1 : Int.tmod time size = time % size := Int.tmod_eq_emod_of_nonneg (by omega)
      have e2 := Int.emod_nonneg time hz
      have e3 := Int.emod_lt_of_pos time (show 0 < size by omega)
      have e4 : wrap64 (time - time % size) = time - time % size := by unfold wrap64; omega
      go_enter Try.func12, Try.ntmps12
      go_wp2
      go_ret
      simp
set_option maxHeartbeats 1000000 in
theorem start_nil (time : Int) (w : World) : Calls Try.prog 12 #[.pointer none, .int .i64 time] w fun e w' => e = .returned (.int .i64 (-1)) ∧ w' = w := by
  go_enter Try.func12, Try.ntmps12
  go_wp2
  go_ret
  simp
set_option maxHeartbeats 1000000 in
theorem len_nil (w : World) : Calls Try.prog 17 #[.pointer none] w fun e w' => e = .returned (.int .i64 0) ∧ w' = w := by
  go_enter Try.func17, Try.ntmps17
  go_wp2
  go_ret
  simp
set_option maxHeartbeats 1000000 in
theorem len_calls {w : World} {s : Nat} {room size : Int} {b : Nat} {m : St} (h : Own w s room size b m) :
    Calls Try.prog 17 #[.pointer (some ⟨s, 0, none⟩)] w fun e w' => e = .returned (.int .i64 m.length) ∧ w' = w := by
  obtain ⟨c0, c1, c2⟩ := h.cells
  obtain ⟨D, hown, hA⟩ := h.map
  have hl := fun ty => hown.len Try.underlying50 ty
  rw [hA.2.1] at hl
  clear h hown hA
  go_enter Try.func17, Try.ntmps17
  go_wp2
  go_ret
  simp
set_option maxHeartbeats 1000000 in
theorem new_calls (room size : Int) (hr : 1 ≤ room ∧ room ≤ 1024 ∧ 1 ≤ size ∧ size ≤ 1048576) (w : World) :
    Calls Try.prog 9 #[.int .i64 room, .int .i64 size] w fun e w' => e = .returned (.tuple #[.pointer (some ⟨w.heap.size + 1, 0, none⟩), .int .i64 0]) ∧ Own w' (w.heap.size + 1) room size w.heap.size [] ∧ Below w.heap.size w w' := by
  have hmm := @run_makeMap Try.prog
  obtain ⟨r1, r2, r3, r4⟩ := hr
  have n1 : ¬ room < 1 := by omega
  have n2 : ¬ 1024 < room := by omega
  have n3 : ¬ size < 1 := by omega
  have n4 : ¬ 1048576 < size := by omega
  go_enter Try.func9, Try.ntmps9
  go_wp2
  go_ret2
  have h1 : ((w.alloc (.map #[] 0)).alloc (.cells #[.int .i64 room, .int .i64 size, .map (some w.heap.size)] 52)).heap[w.heap.size + 1]? = some (.cells #[.int .i64 room, .int .i64 size, .map (some w.heap.size)] 52 (0, 0)) := by
    have h := (MapKept.heap_alloc (w.alloc (.map #[] 0)) (.cells #[.int .i64 room, .int .i64 size, .map (some w.heap.size)] 52)).1
    simpa using h
  refine ⟨rfl, ⟨h1, ⟨.map [], (World.ownsMap_made _ _ _ _).alloc _, Agr.nil⟩, List.Pairwise.nil, by simp, ⟨r1, r2, r3, r4⟩, by simp; omega⟩, ?_⟩
  exact below_alloc (below_alloc (Below.refl _ _) _) _
end Go.Proofs.Ytcjhllpbbbjaiaa.Win
