import Derived.Test.YtanhibhcmfmeeaaProg
import Derived.Maps.RangeWalk
import Derived.Maps.OwnSet
import Derived.Maps.Views
import Derived.DeepKeys4
import Derived.ChangeKeysEq
import Derived.KernelRfl
import Derived.Test.YtanhibhcmfmeeaaWWords
import Derived.Test.YtanhibhcmfmeeaaWMore
import Derived.Maps.AppendAt
import Derived.WalkKit
import Derived.BigQuiet
import Derived.Deep.QuietTactic
import Derived.Deep.RegionWith
import Derived.Lib.Hide
import Derived.Test.YtanhibhcmfmeeaaCut
import Derived.Deep.DeepCutAuto
import Derived.Deep.CutBlock
import Derived.OwnWalk
import Derived.StillTailTactics
import Derived.RegionTactic
import Derived.BigRegion
import Derived.Shelf.SlicesE.Kit
import Derived.Sort.Grow
import Derived.Shelf.SlSortCmp.NoneTotal
import Derived.Shelf.Lay
import Derived.Ground.SlsfProg
import Derived.Sort.OwnSorted
import Derived.Test.YtanhibhcmfmeeaaWAt
/- A place as a key of a map: two numbers of 64 bits. -/
namespace Go.Proofs.Ytanhibhcmfmeeaa.Win
open Go.Maps (Keyed)
def mkP (a b : Int) : Value := .agg #[.int .i64 a, .int .i64 b]
def klP (a b : Int) : Lit := .string (keyBytes [.int .i64 a, .int .i64 b])
abbrev W64 (a : Int) : Prop := (Lit.int .i64 a).wf = true
theorem laidOut : laidOutB Try.prog = true := by kernel_rfl
theorem rowP : (104 : TypeId) < Try.prog.types.size := of_decide_eq_true (by kernel_rfl)
theorem wideP : (match Try.prog.underlying 104 with | some (.array _ _) | some (.struct _) => true | _ => false) = true := by rw [Try.underlying104]
set_option maxRecDepth 100000 in
theorem keyedP : Keyed Try.prog 104 := .of_law (deep_law_laid laidOut (m := 2) (by omega) rowP (by kernel_rfl) wideP)
theorem cellsP : Try.prog.cellsOf 104 = 2 := by kernel_rfl
theorem cells64 : Try.prog.cellsOf 2 = 1 := by kernel_rfl
theorem keyTP : Try.prog.keyType 104 = true := by kernel_rfl
theorem sizeP : ∃ m, Try.prog.types.size + 1 = m + 2 := ⟨Try.prog.types.size - 1, by have h : 1 ≤ Try.prog.types.size := of_decide_eq_true (by kernel_rfl); omega⟩
theorem keyOf_mk {a b : Int} (ha : W64 a) (hb : W64 b) : keyOf Try.prog 104 (mkP a b) = some (klP a b) := by
  obtain ⟨m, hm⟩ := sizeP
  have hf : (mkP a b).formed Try.prog 104 = true := by simp [mkP, Value.formed, Try.underlying104, cellsP]
  unfold keyOf
  rw [Try.underlying104]
  simp only [keyTP, hf, Bool.and_self, if_true, hm]
  simp [mkP, Value.cells, Program.keyLits, Try.underlying104, Try.underlying2, cellsP, cells64, ha, hb, klP]
theorem lit1 {m : Nat} {x : Value} {L : List Lit} (h : Try.prog.keyLits (m + 1) 2 [x] = some L) : ∃ a, x = .int .i64 a ∧ L = [.int .i64 a] ∧ W64 a := by
  obtain ⟨n, e, rfl⟩ := keyLits_int' Try.underlying2 h
  obtain rfl : x = .int .i64 n := by simpa using e
  have hw := keyLits_wf h (.int .i64 n) (by simp)
  exact ⟨n, rfl, rfl, hw⟩
set_option maxRecDepth 100000 in
theorem keyOf_inv {v : Value} {l : Lit} (h : keyOf Try.prog 104 v = some l) : ∃ a b, v = mkP a b ∧ l = klP a b ∧ W64 a ∧ W64 b := by
  obtain ⟨m, hm⟩ := sizeP
  obtain ⟨xs, L, rfl, hL, rfl⟩ := keyOf_top wideP h
  clear h
  rw [hm] at hL
  unfold Program.keyLits at hL
  rw [Try.underlying104] at hL
  simp only [cellsP] at hL
  obtain ⟨l3⟩ := xs
  match l3, hL with
  | [x, y], hL =>
    simp [cells64] at hL
    cases h1 : Try.prog.keyLits (m + 1) 2 [x] with
    | none => rw [h1] at hL; cases hL
    | some a1 =>
      cases h2 : Try.prog.keyLits (m + 1) 2 [y] with
      | none => rw [h1, h2] at hL; cases hL
      | some a2 =>
        rw [h1, h2] at hL
        obtain ⟨a, rfl, rfl, wa⟩ := lit1 h1
        obtain ⟨b, rfl, rfl, wb⟩ := lit1 h2
        obtain rfl : [.int .i64 a, .int .i64 b] = L := by simpa using hL
        exact ⟨a, b, rfl, rfl, wa, wb⟩
end Go.Proofs.Ytanhibhcmfmeeaa.Win
/- A store as a sorted list of places and values; the datum of its map. -/
namespace Go.Proofs.Ytanhibhcmfmeeaa.Win
open Go.Maps (Keyed)
abbrev P2 := Int × Int
abbrev St := List (P2 × Int)
def ltW (a b : P2) : Prop := a.1 < b.1 ∨ a.1 = b.1 ∧ a.2 < b.2
instance (a b : P2) : Decidable (ltW a b) := by unfold ltW; infer_instance
theorem ltW_irr (a : P2) : ¬ ltW a a := by unfold ltW; omega
theorem ltW_trans {a b c : P2} (h : ltW a b) (g : ltW b c) : ltW a c := by unfold ltW at *; omega
theorem ltW_total {a b : P2} (h : a ≠ b) : ltW a b ∨ ltW b a := by
  obtain ⟨a1, a2⟩ := a
  obtain ⟨b1, b2⟩ := b
  have h' : ¬ (a1 = b1 ∧ a2 = b2) := fun ⟨x, y⟩ => h (by rw [x, y])
  unfold ltW
  simp only
  omega
def Sorted (m : St) : Prop := m.Pairwise fun a b => ltW a.1 b.1
def look : St → P2 → Option Int
  | [], _ => none
  | x :: r, p => if x.1 = p then some x.2 else look r p
def put (p : P2) (v : Int) : St → St
  | [] => [(p, v)]
  | x :: r => if ltW p x.1 then (p, v) :: x :: r else if x.1 = p then (p, v) :: r else x :: put p v r
def del (p : P2) (m : St) : St := m.filter fun x => decide (x.1 ≠ p)
theorem look_mem : ∀ {m : St} {p : P2} {v : Int}, look m p = some v → (p, v) ∈ m
  | x :: r, p, v, h => by
    rw [look] at h
    by_cases e : x.1 = p
    · rw [if_pos e] at h
      obtain rfl := Option.some.inj h
      subst e; exact List.mem_cons_self
    · rw [if_neg e] at h; exact List.mem_cons_of_mem _ (look_mem h)
theorem look_none : ∀ {m : St} {p : P2}, look m p = none ↔ ∀ x ∈ m, x.1 ≠ p
  | [], p => by simp [look]
  | x :: r, p => by
    rw [look]
    by_cases e : x.1 = p
    · rw [if_pos e]
      exact ⟨fun h => (by cases h), fun h => absurd e (h x List.mem_cons_self)⟩
    · rw [if_neg e, look_none]
      exact ⟨fun h y hy => (List.mem_cons.1 hy).elim (fun e' => e' ▸ e) (h y), fun h y hy => h y (List.mem_cons_of_mem _ hy)⟩
theorem mem_put {p : P2} {v : Int} : ∀ {m : St} {x : P2 × Int}, x ∈ put p v m → x = (p, v) ∨ x ∈ m
  | [], x, h => by simp [put] at h; exact .inl h
  | y :: r, x, h => by
    rw [put] at h
    split at h
    · rcases List.mem_cons.1 h with h | h
      · exact .inl h
      · exact .inr h
    · split at h
      · rcases List.mem_cons.1 h with h | h
        · exact .inl h
        · exact .inr (List.mem_cons_of_mem _ h)
      · rcases List.mem_cons.1 h with h | h
        · exact .inr (h ▸ List.mem_cons_self)
        · exact (mem_put h).imp id (List.mem_cons_of_mem _)
theorem sorted_put (p : P2) (v : Int) : ∀ {m : St}, Sorted m → Sorted (put p v m)
  | [], _ => by simp [put, Sorted]
  | y :: r, h => by
    obtain ⟨h1, h2⟩ := List.pairwise_cons.1 h
    rw [put]
    split
    · rename_i hc
      refine List.pairwise_cons.2 ⟨fun x hx => ?_, h⟩
      rcases List.mem_cons.1 hx with rfl | hx
      · exact hc
      · exact ltW_trans hc (h1 x hx)
    · rename_i hc
      split
      · rename_i he
        exact List.pairwise_cons.2 ⟨fun x hx => he ▸ h1 x hx, h2⟩
      · rename_i he
        refine List.pairwise_cons.2 ⟨fun x hx => ?_, sorted_put p v h2⟩
        rcases mem_put hx with rfl | hx
        · exact (ltW_total he).resolve_right hc
        · exact h1 x hx
theorem look_put (p q : P2) (v : Int) : ∀ {m : St}, Sorted m → look (put p v m) q = if p = q then some v else look m q
  | [], _ => by simp [put, look]
  | y :: r, h => by
    obtain ⟨h1, h2⟩ := List.pairwise_cons.1 h
    rw [put]
    split
    · rw [look]
    · rename_i hc
      split
      · rename_i he
        rw [look, look]
        by_cases e : p = q
        · rw [if_pos e, if_pos e]
        · rw [if_neg e, if_neg e, if_neg (fun h' => e (he ▸ h'))]
      · rename_i he
        rw [look, look, look_put p q v h2]
        by_cases e : y.1 = q
        · rw [if_pos e, if_pos e, if_neg (fun h' => he (e.trans h'.symm))]
        · rw [if_neg e, if_neg e]
theorem sorted_del (p : P2) {m : St} (h : Sorted m) : Sorted (del p m) := h.sublist List.filter_sublist
theorem look_del (p q : P2) : ∀ (m : St), look (del p m) q = if p = q then none else look m q
  | [] => by simp [del, look]
  | y :: r => by
    have ih := look_del p q r
    unfold del at ih ⊢
    by_cases e : y.1 = p
    · rw [List.filter_cons_of_neg (by simpa using e), ih, look]
      by_cases e2 : p = q
      · rw [if_pos e2, if_pos e2]
      · rw [if_neg e2, if_neg e2, if_neg (fun h' => e2 (e ▸ h'))]
    · rw [List.filter_cons_of_pos (by simpa using e), look, ih, look]
      by_cases e2 : y.1 = q
      · rw [if_pos e2, if_pos e2, if_neg (fun h' => e (e2.trans h'.symm))]
      · rw [if_neg e2, if_neg e2]
theorem put_len (p : P2) (v : Int) : ∀ {m : St}, Sorted m → (put p v m).length = if (look m p).isSome = true then m.length else m.length + 1
  | [], _ => by simp [put, look]
  | y :: r, h => by
    obtain ⟨h1, h2⟩ := List.pairwise_cons.1 h
    rw [put]
    split
    · rename_i hc
      have hn : look (y :: r) p = none := look_none.2 fun x hx e => by
        rcases List.mem_cons.1 hx with rfl | hx
        · rw [e] at hc; exact ltW_irr _ hc
        · have := ltW_trans hc (h1 x hx)
          rw [e] at this; exact ltW_irr _ this
      rw [hn]; rfl
    · rename_i hc
      split
      · rename_i he
        rw [look, if_pos he]; rfl
      · rename_i he
        rw [look, if_neg he, List.length_cons, put_len p v h2]
        split <;> simp
end Go.Proofs.Ytanhibhcmfmeeaa.Win
/- A store in memory: New, Start, Len. -/
namespace Go.Proofs.Ytanhibhcmfmeeaa.Win
open Go.RowKit Go.Maps Go.Proofs.YtanhibhcmfmeeaaW.PrintWords
noncomputable abbrev PE : Value → Option (DataW Unit × List MemPlace) := plainElem Try.prog 2
def kl2 (p : P2) : Lit := klP p.1 p.2
def val2 (p : P2) : Value := mkP p.1 p.2
def W2 (p : P2) : Prop := W64 p.1 ∧ W64 p.2
theorem keyOf_2 {p : P2} (h : W2 p) : keyOf Try.prog 104 (val2 p) = some (kl2 p) := keyOf_mk h.1 h.2
theorem kl2_inj {p q : P2} (hp : W2 p) (hq : W2 q) (h : kl2 p = kl2 q) : p = q := by
  have e := keyedP.inj (keyOf_2 hp) (h ▸ keyOf_2 hq)
  obtain ⟨a, b⟩ := p
  obtain ⟨d, e1⟩ := q
  simp only [val2, mkP, Value.agg.injEq, Array.mk.injEq, List.cons.injEq, Value.int.injEq, true_and, and_true] at e
  obtain ⟨rfl, rfl⟩ := e
  rfl
theorem isKey2 {p : P2} (hp : W2 p) : WideAt.IsKeyLit (kl2 p) := keyedP.key (keyOf_2 hp)
/-- The datum tells just the store. -/
def Agr (D : DataW Unit) (m : St) : Prop := Maps.Tidy D ∧ Maps.size D = m.length ∧ ∀ p, W2 p → D.atKey (kl2 p) (.lit (.int .i64 0)) = .lit (.int .i64 ((look m p).getD 0)) ∧ Maps.has D (kl2 p) = (look m p).isSome
theorem Agr.nil : Agr (.map []) [] := ⟨Maps.tidy_empty, rfl, fun _ _ => ⟨rfl, rfl⟩⟩
theorem Agr.put {D : DataW Unit} {m : St} (h : Agr D m) (hs : Sorted m) {p : P2} (hp : W2 p) (v : Int) : Agr (D.put (kl2 p) (.lit (.int .i64 v))) (put p v m) := by
  refine ⟨h.1.put (isKey2 hp) _, ?_, fun q hq => ?_⟩
  · rw [Maps.size_put h.1, (h.2.2 p hp).2, put_len p v hs, h.2.1]
  · rw [look_put p q v hs]
    by_cases e : p = q
    · subst e
      rw [if_pos rfl, Maps.atKey_put_same h.1.isMap (isKey2 hp), Maps.has_put_same h.1.isMap (isKey2 hp)]
      exact ⟨rfl, rfl⟩
    · have hne : kl2 q ≠ kl2 p := fun h' => e (kl2_inj hp hq h'.symm)
      rw [if_neg e, Maps.atKey_put_other hne, Maps.has_put_other hne]
      exact h.2.2 q hq
def startF (size time : Int) : Int := if time < 0 ∨ 1099511627776 < time then -1 else time - time % size
theorem startF_idem {size time : Int} (hs : 1 ≤ size) (h : 0 ≤ startF size time) : startF size (startF size time) = startF size time := by
  unfold startF at h ⊢
  split at h
  · omega
  · rename_i hn
    rw [if_neg hn]
    have e2 := Int.emod_nonneg time (show size ≠ 0 by omega)
    have e4 : time % size ≤ time := by
      have h1 := Int.mul_ediv_add_emod time size
      have h2 : 0 ≤ size * (time / size) := Int.mul_nonneg (by omega) (Int.ediv_nonneg (by omega) (by omega))
      omega
    rw [if_neg (by omega)]
    have e3 : (time - time % size) % size = 0 := Int.emod_eq_zero_of_dvd (Int.dvd_self_sub_emod ..)
    omega
theorem startF_le {size time : Int} (hs : 1 ≤ size) : startF size time ≤ 1099511627776 := by
  unfold startF
  split
  · omega
  · have e2 := Int.emod_nonneg time (show size ≠ 0 by omega)
    omega
/-- A store lies at block s; its map at block b. -/
structure Own (w : World) (s : Nat) (room size : Int) (b : Nat) (m : St) : Prop where
  row : w.heap[s]? = some (.cells #[.int .i64 room, .int .i64 size, .map (some b)] 108 (0, 0))
  map : ∃ D, w.ownsMap Try.prog 104 PE b m.length D ∧ Agr D m
  sorted : Sorted m
  wf : ∀ x ∈ m, W2 x.1 ∧ W64 x.2 ∧ 0 ≤ x.1.1 ∧ startF size x.1.1 = x.1.1
  rng : 1 ≤ room ∧ room ≤ 1024 ∧ 1 ≤ size ∧ size ≤ 1048576
  fits : (m.length : Int) ≤ room
theorem Own.cells {w : World} {s : Nat} {room size : Int} {b : Nat} {m : St} (h : Own w s room size b m) : w.cell? ⟨s, 0, none⟩ = some (.int .i64 room) ∧ w.cell? ⟨s, 1, none⟩ = some (.int .i64 size) ∧ w.cell? ⟨s, 2, none⟩ = some (.map (some b)) := by
  unfold World.cell?
  simp [h.row]
set_option maxHeartbeats 1000000 in
theorem start_calls {w : World} {s : Nat} {room size : Int} {b : Nat} {m : St} (h : Own w s room size b m) (time : Int) :
    Calls Try.prog 29 #[.pointer (some ⟨s, 0, none⟩), .int .i64 time] w fun e w' => e = .returned (.int .i64 (startF size time)) ∧ w' = w := by
  obtain ⟨c0, c1, c2⟩ := h.cells
  have hr := h.rng
  clear h
  unfold startF
  by_cases h1 : time < 0
  · rw [if_pos (.inl h1)]
    go_enter Try.func29, Try.ntmps29
    go_wp2
    go_ret
    simp
  · by_cases h2 : 1099511627776 < time
    · rw [if_pos (.inr h2)]
      go_enter Try.func29, Try.ntmps29
      go_wp2
      go_ret
      simp
    · rw [if_neg (by omega)]
      have hz : size ≠ 0 := by omega
      have e1 : Int.tmod time size = time % size := Int.tmod_eq_emod_of_nonneg (by omega)
      have e2 := Int.emod_nonneg time hz
      have e3 := Int.emod_lt_of_pos time (show 0 < size by omega)
      have e4 : wrap64 (time - time % size) = time - time % size := by unfold wrap64; omega
      go_enter Try.func29, Try.ntmps29
      go_wp2
      go_ret
      simp
set_option maxHeartbeats 1000000 in
theorem start_nil (time : Int) (w : World) : Calls Try.prog 29 #[.pointer none, .int .i64 time] w fun e w' => e = .returned (.int .i64 (-1)) ∧ w' = w := by
  go_enter Try.func29, Try.ntmps29
  go_wp2
  go_ret
  simp
set_option maxHeartbeats 1000000 in
theorem len_nil (w : World) : Calls Try.prog 50 #[.pointer none] w fun e w' => e = .returned (.int .i64 0) ∧ w' = w := by
  go_enter Try.func50, Try.ntmps50
  go_wp2
  go_ret
  simp
set_option maxHeartbeats 1000000 in
theorem len_calls {w : World} {s : Nat} {room size : Int} {b : Nat} {m : St} (h : Own w s room size b m) :
    Calls Try.prog 50 #[.pointer (some ⟨s, 0, none⟩)] w fun e w' => e = .returned (.int .i64 m.length) ∧ w' = w := by
  obtain ⟨c0, c1, c2⟩ := h.cells
  obtain ⟨D, hown, hA⟩ := h.map
  have hl := fun ty => hown.len Try.underlying106 ty
  rw [hA.2.1] at hl
  clear h hown hA
  go_enter Try.func50, Try.ntmps50
  go_wp2
  go_ret
  simp
set_option maxHeartbeats 1000000 in
theorem new_calls (room size : Int) (hr : 1 ≤ room ∧ room ≤ 1024 ∧ 1 ≤ size ∧ size ≤ 1048576) (w : World) :
    Calls Try.prog 32 #[.int .i64 room, .int .i64 size] w fun e w' => e = .returned (.tuple #[.pointer (some ⟨w.heap.size + 1, 0, none⟩), .int .i64 0]) ∧ Own w' (w.heap.size + 1) room size w.heap.size [] ∧ Below w.heap.size w w' := by
  have hmm := @run_makeMap Try.prog
  obtain ⟨r1, r2, r3, r4⟩ := hr
  have n1 : ¬ room < 1 := by omega
  have n2 : ¬ 1024 < room := by omega
  have n3 : ¬ size < 1 := by omega
  have n4 : ¬ 1048576 < size := by omega
  go_enter Try.func32, Try.ntmps32
  go_wp2
  go_ret2
  have h1 : ((w.alloc (.map #[] 0)).alloc (.cells #[.int .i64 room, .int .i64 size, .map (some w.heap.size)] 108)).heap[w.heap.size + 1]? = some (.cells #[.int .i64 room, .int .i64 size, .map (some w.heap.size)] 108 (0, 0)) := by
    have h := (MapKept.heap_alloc (w.alloc (.map #[] 0)) (.cells #[.int .i64 room, .int .i64 size, .map (some w.heap.size)] 108)).1
    simpa using h
  refine ⟨rfl, ⟨h1, ⟨.map [], (World.ownsMap_made _ _ _ _).alloc _, Agr.nil⟩, List.Pairwise.nil, by simp, ⟨r1, r2, r3, r4⟩, by simp; omega⟩, ?_⟩
  exact below_alloc (below_alloc (Below.refl _ _) _) _
end Go.Proofs.Ytanhibhcmfmeeaa.Win
/- Get, and the change of a place. -/
namespace Go.Proofs.Ytanhibhcmfmeeaa.Win
open Go.RowKit Go.Maps Go.Proofs.YtanhibhcmfmeeaaW.PrintWords Go.Proofs.Ytanhibhcmfmeeaa.Cut
theorem grown_drew {a b : World} {row : Option Nat} (h : a.grownBy b row) : a.grownBy b.drew row := ⟨h.os, h.tape, h.output, h.size, h.block⟩
theorem Own.drewN {w : World} {s : Nat} {room size : Int} {b : Nat} {m : St} (h : Own w s room size b m) (n : Nat) : Own (w.drewN n) s room size b m := ⟨h.row, h.map, h.sorted, h.wf, h.rng, h.fits⟩
/-- Other blocks were written, new ones made. -/
theorem Own.kept {w w' : World} {s : Nat} {room size : Int} {b : Nat} {m : St} (h : Own w s room size b m) {row : Option Nat} (hg : w.grownBy w' row) (h1 : some s ≠ row) (h2 : some b ≠ row) : Own w' s room size b m := by
  obtain ⟨D, hD, hA⟩ := h.map
  have hs : s < w.heap.size := (Array.getElem?_eq_some_iff.1 h.row).1
  exact ⟨(hg.block s hs h1).trans h.row, ⟨D, hD.kept hg h2, hA⟩, h.sorted, h.wf, h.rng, h.fits⟩
set_option maxRecDepth 100000 in
theorem Own.lookup {w : World} {s : Nat} {room size : Int} {b : Nat} {m : St} (h : Own w s room size b m) {p : P2} (hp : W2 p) :
    (Instr.lookup 106 (.map (some b)) (val2 p) true).run Try.prog w = .ok (.tuple #[.int .i64 ((look m p).getD 0), .bool (look m p).isSome]) w := by
  obtain ⟨D, hD, hA⟩ := h.map
  obtain ⟨v, ps, hrun, hv⟩ := hD.look_ok keyedP Try.underlying106 (z := .int .i64 0) (by kernel_rfl) (plainElem_int Try.underlying2 (by decide)) (keyOf_2 hp)
  obtain ⟨c, rfl, hc, _⟩ := plainElem_int_inv Try.underlying2 hv
  have h1 : D.atKey (kl2 p) (.lit (.int .i64 0)) = .lit (.int .i64 c) := congrArg Prod.fst hc
  rw [(hA.2.2 p hp).1] at h1
  rw [(hA.2.2 p hp).2] at hrun
  have h2 : (look m p).getD 0 = c := by injection h1 with h1; injection h1
  rw [h2]; exact hrun
set_option maxHeartbeats 1000000 in
theorem get_calls {w : World} {s : Nat} {room size : Int} {b : Nat} {m : St} (h : Own w s room size b m) (key time : Int) (hk : W64 key) (ht : W64 (startF size time)) :
    Calls Try.prog 36 #[.pointer (some ⟨s, 0, none⟩), .int .i64 key, .int .i64 time] w fun e w' => e = .returned (.tuple #[.int .i64 ((look m (startF size time, key)).getD 0), .bool (look m (startF size time, key)).isSome]) ∧ ∃ q, w' = w.drewN q := by
  have hlen := len_calls h
  by_cases h0 : m = []
  · subst h0
    go_enter Try.func36, Try.ntmps36
    go_wp2_with (go_at_call 50; refine hlen.mono ?_; rintro e w' ⟨rfl, rfl⟩)
    go_ret2
    exact ⟨rfl, 0, rfl⟩
  · have hl : (m.length : Int) ≠ 0 := by
      cases m with
      | nil => exact absurd rfl h0
      | cons x r => simp; omega
    have hst := fun n => start_calls (h.drewN n) time
    have hlk := fun n => (h.drewN n).lookup (p := (startF size time, key)) ⟨ht, hk⟩
    obtain ⟨c0, c1, c2⟩ := h.cells
    generalize startF size time = f at hst hlk ⊢
    simp only [val2, mkP] at hlk
    generalize look m (f, key) = lk at hlk ⊢
    have b1 : ((m.length : Int) == 0) = false := beq_eq_false_iff_ne.2 hl
    clear h h0
    go_enter Try.func36, Try.ntmps36
    go_wp2_with (go_at_call 50; refine hlen.mono ?_; rintro e w' ⟨rfl, rfl⟩)
    go_quiet (first | (go_at_call 29; refine Calls.quiet_of_same (hst _)))
    go_wp2
    go_ret2
    exact ⟨rfl, _, rfl⟩
set_option maxHeartbeats 1000000 in
theorem get_nil (key time : Int) (w : World) : Calls Try.prog 36 #[.pointer none, .int .i64 key, .int .i64 time] w fun e w' => e = .returned (.tuple #[.int .i64 0, .bool false]) ∧ w' = w := by
  have hl := len_nil w
  go_enter Try.func36, Try.ntmps36
  go_wp2_with (go_at_call 50; refine hl.mono ?_; rintro e w' ⟨rfl, rfl⟩)
  go_ret2
  exact ⟨rfl, rfl⟩
def chg (size : Int) (p : P2) (v : Int) (d : Bool) : Value := .agg #[.int .i64 p.2, .int .i64 p.1, .int .i64 (p.1 + size), .int .i64 v, .bool d]
set_option maxHeartbeats 1000000 in
/-- The change of a place: new blocks alone. -/
theorem change_calls {w : World} {s : Nat} {room size : Int} {b : Nat} {m : St} (h : Own w s room size b m) (p : P2) (hp : 0 ≤ p.1 ∧ p.1 ≤ 1099511627776) :
    Calls Try.prog 43 #[.pointer (some ⟨s, 0, none⟩), .agg #[.int .i64 p.1, .int .i64 p.2]] w fun e w' => e = .returned (chg size p 0 false) ∧ w.grownBy w' none := by
  obtain ⟨f, key⟩ := p
  have hr := h.rng
  have hw : wrap64 (f + size) = f + size := by simp only at hp; unfold wrap64; omega
  have hs : s < w.heap.size := (Array.getElem?_eq_some_iff.1 h.row).1
  have hs1 : s ≠ w.heap.size := by omega
  obtain ⟨c0, c1, c2⟩ := h.cells
  unfold chg
  simp only at hp ⊢
  clear h
  go_enter Try.func43, Try.ntmps43
  go_wp2
  go_region
  go_wp2
  have hV : ((w.alloc (.cells #[.int .i64 f, .int .i64 key] 104)).alloc (.cells #[.int .i64 key, .int .i64 f, .int .i64 (f + size), .int .i64 0, .bool false] 50)).heap[w.heap.size + 1]? = some (.cells #[.int .i64 key, .int .i64 f, .int .i64 (f + size), .int .i64 0, .bool false] 50 (0, 0)) := by
    have h := (MapKept.heap_alloc (w.alloc (.cells #[.int .i64 f, .int .i64 key] 104)) (.cells #[.int .i64 key, .int .i64 f, .int .i64 (f + size), .int .i64 0, .bool false] 50)).1
    simpa using h
  refine bodyPost_ret (results_cell_row rfl _ _ (w.heap.size + 1) 50 #[.int .i64 key, .int .i64 f, .int .i64 (f + size), .int .i64 0, .bool false] (0, 0) _ rfl hV Try.underlying50 rfl (by kernel_rfl)) rfl ?_
  exact ⟨rfl, grown_drew ((World.grownBy_alloc _ _ _).trans (World.grownBy_alloc _ _ _))⟩
end Go.Proofs.Ytanhibhcmfmeeaa.Win
/- Put. -/
namespace Go.Proofs.Ytanhibhcmfmeeaa.Win
open Go.RowKit Go.Maps Go.Proofs.YtanhibhcmfmeeaaW.PrintWords Go.Proofs.Ytanhibhcmfmeeaa.Cut
def zchg : Value := .agg #[.int .i64 0, .int .i64 0, .int .i64 0, .int .i64 0, .bool false]
set_option maxHeartbeats 1000000 in
theorem put_nil (key time val : Int) (w : World) : Calls Try.prog 39 #[.pointer none, .int .i64 key, .int .i64 time, .int .i64 val] w fun e w' => e = .returned (.tuple #[zchg, .int .i64 3]) ∧ w.grownBy w' none := by
  unfold zchg
  go_enter Try.func39, Try.ntmps39
  go_wp2
  refine bodyPost_ret (results_ct rfl _ _ w.heap.size 50 _ (0, 0) _ rfl (MapKept.heap_alloc w _).1 Try.underlying50 rfl (by kernel_rfl)) rfl ?_
  exact ⟨rfl, World.grownBy_alloc _ _ _⟩
set_option maxHeartbeats 1000000 in
/-- A time that may not be. -/
theorem put_range {w : World} {s : Nat} {room size : Int} {b : Nat} {m : St} (h : Own w s room size b m) (key time val : Int) (hf : startF size time < 0) :
    Calls Try.prog 39 #[.pointer (some ⟨s, 0, none⟩), .int .i64 key, .int .i64 time, .int .i64 val] w fun e w' => e = .returned (.tuple #[zchg, .int .i64 2]) ∧ w.grownBy w' none := by
  have hst := start_calls (h.kept (World.grownBy_alloc w (.cells #[.int .i64 0, .int .i64 0, .int .i64 0, .int .i64 0, .bool false] 50) none) (by simp) (by simp)) time
  generalize startF size time = f at hf hst
  unfold zchg
  clear h
  go_enter Try.func39, Try.ntmps39
  go_wp2_with (go_at_call 29; refine hst.mono ?_; rintro e w' ⟨rfl, rfl⟩)
  refine bodyPost_ret (results_ct rfl _ _ w.heap.size 50 #[.int .i64 0, .int .i64 0, .int .i64 0, .int .i64 0, .bool false] (0, 0) _ rfl (((MapKept.heap_alloc (w.alloc _) _).2 _ (by simp)).trans (MapKept.heap_alloc w _).1) Try.underlying50 rfl (by kernel_rfl)) rfl ?_
  exact ⟨rfl, (World.grownBy_alloc _ _ _).trans (World.grownBy_alloc _ _ _)⟩
/-- What Put finds ahead of its tests: the world behind the two boxes. -/
theorem put_head {w : World} {s : Nat} {room size : Int} {b : Nat} {m : St} (h : Own w s room size b m) (f key : Int) :
    let W := (w.alloc (.cells #[.int .i64 0, .int .i64 0, .int .i64 0, .int .i64 0, .bool false] 50)).alloc (.cells #[.int .i64 f, .int .i64 key] 104)
    Own W s room size b m ∧ w.grownBy W none ∧ W.heap[w.heap.size]? = some (.cells #[.int .i64 0, .int .i64 0, .int .i64 0, .int .i64 0, .bool false] 50 (0, 0)) ∧ W.cell? ⟨w.heap.size + 1, 0, none⟩ = some (.int .i64 f) ∧ W.cell? ⟨w.heap.size + 1, 1, none⟩ = some (.int .i64 key) := by
  have g : w.grownBy ((w.alloc (.cells #[.int .i64 0, .int .i64 0, .int .i64 0, .int .i64 0, .bool false] 50)).alloc (.cells #[.int .i64 f, .int .i64 key] 104)) none := (World.grownBy_alloc _ _ _).trans (World.grownBy_alloc _ _ _)
  exact ⟨h.kept g (by simp) (by simp), g, ((MapKept.heap_alloc (w.alloc _) _).2 _ (by simp)).trans (MapKept.heap_alloc w _).1, by simp, by simp⟩
end Go.Proofs.Ytanhibhcmfmeeaa.Win
/- Put: no room; what is put. -/
namespace Go.Proofs.Ytanhibhcmfmeeaa.Win
open Go.RowKit Go.Maps Go.Proofs.YtanhibhcmfmeeaaW.PrintWords Go.Proofs.Ytanhibhcmfmeeaa.Cut
theorem grown_drewN {a b : World} {row : Option Nat} (h : a.grownBy b row) (n : Nat) : a.grownBy (b.drewN n) row := ⟨h.os, h.tape, h.output, h.size, h.block⟩
theorem grown_set {w W : World} (h : w.grownBy W none) {p : Addr} (hp : w.heap.size ≤ p.block) (u : Value) : w.grownBy (W.setCell p u) none :=
  ⟨h.os, h.tape, h.output, by have := h.size; simpa [World.setCell] using this, fun i hi hne => (Below.heap_setCell W p u i (by omega)).trans (h.block i hi hne)⟩
set_option maxHeartbeats 2000000 in
/-- No room. -/
theorem put_full {w : World} {s : Nat} {room size : Int} {b : Nat} {m : St} (h : Own w s room size b m) (key time val : Int) (hk : W64 key) (hw : W64 (startF size time)) (hf : 0 ≤ startF size time) (hl : look m (startF size time, key) = none) (hm : room ≤ m.length) :
    Calls Try.prog 39 #[.pointer (some ⟨s, 0, none⟩), .int .i64 key, .int .i64 time, .int .i64 val] w fun e w' => e = .returned (.tuple #[zchg, .int .i64 3]) ∧ w.grownBy w' none := by
  have hst := start_calls (h.kept (World.grownBy_alloc w (.cells #[.int .i64 0, .int .i64 0, .int .i64 0, .int .i64 0, .bool false] 50) none) (by simp) (by simp)) time
  have hd := put_head h (startF size time) key
  generalize startF size time = f at hf hst hl hd hw
  unfold zchg
  clear h
  have nf : ¬ f < 0 := by omega
  go_enter Try.func39, Try.ntmps39
  go_upto_region 6 with (go_at_call 29; refine hst.mono ?_; rintro e w' ⟨rfl, rfl⟩)
  generalize (w.alloc (.cells #[.int .i64 0, .int .i64 0, .int .i64 0, .int .i64 0, .bool false] 50)).alloc (.cells #[.int .i64 f, .int .i64 key] 104) = W at hd ⊢
  obtain ⟨hO, hg, hrow, d0, d1⟩ := hd
  obtain ⟨c0, c1, c2⟩ := hO.cells
  have hlk := fun n => (hO.drewN n).lookup (p := (f, key)) ⟨hw, hk⟩
  rw [hl] at hlk
  simp only [val2, mkP, Option.getD_none, Option.isSome_none] at hlk
  obtain ⟨D, hD, hA⟩ := hO.map
  have hln := fun n ty => World.ownsMap.len (w := W.drewN n) hD Try.underlying106 ty
  rw [hA.2.1] at hln
  have hw0 : w.heap.size < W.heap.size := (Array.getElem?_eq_some_iff.1 hrow).1
  have z0 := (blk_cell hrow 0).trans rfl
  have z1 := (blk_cell hrow 1).trans rfl
  have z2 := (blk_cell hrow 2).trans rfl
  have z3 := (blk_cell hrow 3).trans rfl
  have z4 := (blk_cell hrow 4).trans rfl
  have y0 := blk_frozen hrow 0
  have y1 := blk_frozen hrow 1
  have y2 := blk_frozen hrow 2
  have y3 := blk_frozen hrow 3
  have y4 := blk_frozen hrow 4
  have t1 : decide (room ≤ (m.length : Int)) = true := decide_eq_true hm
  clear hD hA hO hst
  go_quiet (fail)
  go_wp2_with fail
  go_quiet (fail)
  go_wp2
  refine bodyPost_ret (results_ct rfl _ _ w.heap.size 50 #[.int .i64 0, .int .i64 0, .int .i64 0, .int .i64 0, .bool false] (0, 0) _ rfl ?hp Try.underlying50 rfl (by kernel_rfl)) rfl ?_
  case hp =>
    repeat (with_reducible first | exact hrow | refine blk_drewN ?_ _ | refine blk_drew ?_ | refine blk_put (cs := #[.int .i64 0, .int .i64 0, .int .i64 0, .int .i64 0, .bool false]) ?_ _ _ rfl)
  · refine ⟨rfl, ?_⟩
    repeat (with_reducible first | exact hg | refine grown_drew ?_ | refine grown_set ?_ (Nat.le_refl _) _ | refine grown_drewN ?_ _)
end Go.Proofs.Ytanhibhcmfmeeaa.Win
/- Put: what is put. -/
namespace Go.Proofs.Ytanhibhcmfmeeaa.Win
open Go.RowKit Go.Maps Go.Proofs.YtanhibhcmfmeeaaW.PrintWords Go.Proofs.Ytanhibhcmfmeeaa.Cut
/-- The store of a value: what the operation does, in any world that draws have made of W. -/
theorem Own.store {w : World} {s : Nat} {room size : Int} {b : Nat} {m : St} (h : Own w s room size b m) {p : P2} (hp : W2 p) (hp2 : 0 ≤ p.1 ∧ startF size p.1 = p.1) (v : Int) (hv : W64 v) (hfit : ((put p v m).length : Int) ≤ room) :
    ∃ w2, (Instr.mapUpdate 106 (.map (some b)) (val2 p) (.int .i64 v)).run Try.prog w = .ok () w2 ∧ Own w2 s room size b (put p v m) ∧ w.grownBy w2 (some b) := by
  obtain ⟨D, hD, hA⟩ := h.map
  have hr := h.rng
  have hfi := h.fits
  obtain ⟨w2, hrun, hD2, hg⟩ := hD.update keyedP Try.underlying106 (by unfold maxLen; omega) (keyOf_2 hp) (plainElem_int Try.underlying2 hv)
  have hA2 := hA.put h.sorted hp v
  refine ⟨w2, hrun, ⟨?_, ⟨_, ?_, hA2⟩, sorted_put p v h.sorted, ?_, hr, hfit⟩, hg⟩
  · have hs : s < w.heap.size := (Array.getElem?_eq_some_iff.1 h.row).1
    refine (hg.block s hs ?_).trans h.row
    intro e
    have e := Option.some.inj e
    obtain ⟨es, clock, hb, _⟩ := hD
    rw [← e, h.row] at hb
    cases hb
  · have hsz := hA2.2.1
    obtain ⟨es, clock, hb, F, _, hDe⟩ := hD2
    refine ⟨es, clock, hb, F, ?_, hDe⟩
    rw [hDe] at hsz
    rw [← hsz, Maps.size_eq, length_sorted]
    simp
  · intro x hx
    rcases mem_put hx with rfl | hx
    · exact ⟨hp, hv, hp2⟩
    · exact h.wf x hx
end Go.Proofs.Ytanhibhcmfmeeaa.Win
/- Put: what is put. -/
namespace Go.Proofs.Ytanhibhcmfmeeaa.Win
open Go.RowKit Go.Maps Go.Proofs.YtanhibhcmfmeeaaW.PrintWords Go.Proofs.Ytanhibhcmfmeeaa.Cut
theorem zrow_facts {W : World} {i : Nat} (h : W.heap[i]? = some (.cells #[.int .i64 0, .int .i64 0, .int .i64 0, .int .i64 0, .bool false] 50 (0, 0))) :
    W.cell? ⟨i, 0, none⟩ = some (.int .i64 0) ∧ W.cell? ⟨i, 1, none⟩ = some (.int .i64 0) ∧ W.cell? ⟨i, 2, none⟩ = some (.int .i64 0) ∧ W.cell? ⟨i, 3, none⟩ = some (.int .i64 0) ∧ W.cell? ⟨i, 4, none⟩ = some (.bool false) ∧
    W.frozen? ⟨i, 0, none⟩ = false ∧ W.frozen? ⟨i, 1, none⟩ = false ∧ W.frozen? ⟨i, 2, none⟩ = false ∧ W.frozen? ⟨i, 3, none⟩ = false ∧ W.frozen? ⟨i, 4, none⟩ = false ∧ i < W.heap.size :=
  ⟨(blk_cell h 0).trans rfl, (blk_cell h 1).trans rfl, (blk_cell h 2).trans rfl, (blk_cell h 3).trans rfl, (blk_cell h 4).trans rfl, blk_frozen h 0, blk_frozen h 1, blk_frozen h 2, blk_frozen h 3, blk_frozen h 4, (Array.getElem?_eq_some_iff.1 h).1⟩
theorem cell_lt {w : World} {a : Addr} {v : Value} (h : w.cell? a = some v) : a.block < w.heap.size := by
  unfold World.cell? at h
  by_cases hl : a.block < w.heap.size
  · exact hl
  · rw [Array.getElem?_eq_none (by omega)] at h
    simp at h
theorem Own.lt {w : World} {s : Nat} {room size : Int} {b : Nat} {m : St} (h : Own w s room size b m) : s < w.heap.size ∧ b < w.heap.size ∧ s ≠ b := by
  obtain ⟨D, hD, _⟩ := h.map
  refine ⟨(Array.getElem?_eq_some_iff.1 h.row).1, hD.lt, fun e => ?_⟩
  obtain ⟨es, clock, hb, _⟩ := hD
  rw [← e, h.row] at hb
  cases hb
theorem World.grownBy.set {w W : World} {row : Option Nat} (h : w.grownBy W row) {i : Nat} (hp : w.heap.size ≤ i) (j : Nat) (u : Value) : w.grownBy (W.setCell ⟨i, j, none⟩ u) row :=
  ⟨h.os, h.tape, h.output, by have := h.size; simpa [World.setCell] using this, fun k hk hne => (Below.heap_setCell W ⟨i, j, none⟩ u k (by simp only; omega)).trans (h.block k hk hne)⟩
theorem Own.setCell {w : World} {s : Nat} {room size : Int} {b : Nat} {m : St} (h : Own w s room size b m) {i : Nat} (h1 : s ≠ i) (h2 : b ≠ i) (j : Nat) (u : Value) : Own (w.setCell ⟨i, j, none⟩ u) s room size b m :=
  h.kept (row := some i) ⟨rfl, rfl, rfl, by simp [World.setCell], fun k _ hne => Below.heap_setCell w ⟨i, j, none⟩ u k (fun e => hne (by rw [e]))⟩ (by simpa using h1) (by simpa using h2)
set_option maxRecDepth 100000 in
set_option maxHeartbeats 4000000 in
theorem put_ok {w : World} {s : Nat} {room size : Int} {b : Nat} {m : St} (h : Own w s room size b m) (key time val : Int) (hk : W64 key) (hv : W64 val) (hw : W64 (startF size time)) (hf : 0 ≤ startF size time) (hm : look m (startF size time, key) = none → (m.length : Int) < room) :
    Calls Try.prog 39 #[.pointer (some ⟨s, 0, none⟩), .int .i64 key, .int .i64 time, .int .i64 val] w fun e w' => e = .returned (.tuple #[chg size (startF size time, key) val false, .int .i64 0]) ∧ Own w' s room size b (put (startF size time, key) val m) ∧ w.grownBy w' (some b) := by
  have hst := start_calls (h.kept (World.grownBy_alloc w (.cells #[.int .i64 0, .int .i64 0, .int .i64 0, .int .i64 0, .bool false] 50) none) (by simp) (by simp)) time
  have hd := put_head h (startF size time) key
  have hfb : startF size time ≤ 1099511627776 := startF_le h.rng.2.2.1
  have hid := startF_idem h.rng.2.2.1 hf
  generalize startF size time = f at hf hst hm hd hw hfb hid ⊢
  obtain ⟨hs0, hb0, hsb⟩ := h.lt
  have hfit : ((put (f, key) val m).length : Int) ≤ room := by
    rw [put_len _ _ h.sorted]
    split
    · exact h.fits
    · rename_i hn
      have := hm (by cases hq : look m (f, key) <;> simp_all)
      omega
  clear h
  have nf : ¬ f < 0 := by omega
  cases hlk0 : look m (f, key)
  all_goals
    go_enter Try.func39, Try.ntmps39
    go_upto_region 6 with (go_at_call 29; refine hst.mono ?_; rintro e w' ⟨rfl, rfl⟩)
    generalize (w.alloc (.cells #[.int .i64 0, .int .i64 0, .int .i64 0, .int .i64 0, .bool false] 50)).alloc (.cells #[.int .i64 f, .int .i64 key] 104) = W at hd ⊢
    obtain ⟨hO, hg, hrow, d0, d1⟩ := hd
    obtain ⟨c0, c1, c2⟩ := hO.cells
    have hlk := fun n => (hO.drewN n).lookup (p := (f, key)) ⟨hw, hk⟩
    rw [hlk0] at hlk
    simp only [val2, mkP, Option.getD_none, Option.isSome_none, Option.getD_some, Option.isSome_some] at hlk
    obtain ⟨D, hD, hA⟩ := hO.map
    have hln := fun n ty => World.ownsMap.len (w := W.drewN n) hD Try.underlying106 ty
    rw [hA.2.1] at hln
    try have t1 : decide (room ≤ (m.length : Int)) = false := decide_eq_false (by have := hm hlk0; omega)
    have HO := Lib.hid hO
    clear hD hA hO hst hlk0
    go_quiet (fail)
    rename Nat => n1
    go_wp2_with fail
    go_quiet (fail)
    go_wp2_with fail
    have HO2 : Own ((W.drewN n1).drewN nq) s room size b m := (HO.out.drewN n1).drewN nq
    have HG2 : w.grownBy ((W.drewN n1).drewN nq) none := grown_drewN (grown_drewN hg _) _
    have HR2 : ((W.drewN n1).drewN nq).heap[w.heap.size]? = some (.cells #[.int .i64 0, .int .i64 0, .int .i64 0, .int .i64 0, .bool false] 50 (0, 0)) := hrow
    have D0 : ((W.drewN n1).drewN nq).cell? ⟨w.heap.size + 1, 0, none⟩ = some (.int .i64 f) := d0
    have D1 : ((W.drewN n1).drewN nq).cell? ⟨w.heap.size + 1, 1, none⟩ = some (.int .i64 key) := d1
    clear hlk hln d0 d1 c0 c1 c2 hrow hg HO
    generalize (W.drewN n1).drewN nq = X at *
    clear n1 W
    obtain ⟨w2, hrun, hO3, hg3⟩ := Own.store (HO2.drewN 1) (p := (f, key)) ⟨hw, hk⟩ ⟨hf, hid⟩ val hv hfit
    obtain ⟨c0, c1, c2⟩ := HO2.cells
    go_still_tail 6, (by kernel_rfl)
    change wpList _ _ _ _ _ (X.drewN 1)
    have hrow3 : w2.heap[w.heap.size]? = some (.cells #[.int .i64 0, .int .i64 0, .int .i64 0, .int .i64 0, .bool false] 50 (0, 0)) := (hg3.block _ (Array.getElem?_eq_some_iff.1 HR2).1 (by intro e; have := Option.some.inj e; omega)).trans HR2
    have hcell := fun j u (hu : X.cell? ⟨w.heap.size + 1, j, none⟩ = some u) => show w2.cell? ⟨w.heap.size + 1, j, none⟩ = some u from
      (World.cell?_of_block (hg3.block (w.heap.size + 1) (cell_lt hu) (by intro e; have := Option.some.inj e; omega))).trans hu
    have e0 := hcell _ _ D0
    have e1 := hcell _ _ D1
    have hch := change_calls hO3 (f, key) ⟨hf, hfb⟩
    have HO3 := Lib.hid (And.intro hO3 ((HG2.but (some b)).trans (⟨hg3.os, hg3.tape, hg3.output, hg3.size, hg3.block⟩ : X.grownBy w2 (some b))))
    simp only [val2, mkP] at hrun
    simp only [chg] at hch ⊢
    clear hid hO3 hg3 HO2 HG2 HR2 D0 D1 hcell hm hfit
    go_wp2_with (go_at_call 43; refine hch.mono ?_; rintro e w4 ⟨rfl, hg4⟩; have hrow4 := (hg4.block _ (Array.getElem?_eq_some_iff.1 hrow3).1 (by simp)).trans hrow3; obtain ⟨z0, z1, z2, z3, z4, y0, y1, y2, y3, y4, ylt⟩ := zrow_facts hrow4)
    have HG4 := Lib.hid hg4
    clear hrun hch hg4
    refine bodyPost_ret (results_ct rfl _ _ w.heap.size 50 #[.int .i64 key, .int .i64 f, .int .i64 (f + size), .int .i64 val, .bool false] (0, 0) _ rfl ?hp Try.underlying50 rfl (by kernel_rfl)) rfl ?_
    case hp =>
      refine ((MapKept.heap_alloc _ _).2 _ (by simpa using ylt)).trans ((blk_put (blk_put (blk_put (blk_put (blk_put hrow4 0 _ rfl) 1 _ rfl) 2 _ rfl) 3 _ rfl) 4 _ rfl).trans ?_)
      simp
    · have n1 : s ≠ w.heap.size := by omega
      have n2 : b ≠ w.heap.size := by omega
      refine ⟨rfl, ?_, ?_⟩
      · exact (((((((HO3.out.1.kept HG4.out (by simp) (by simp)).setCell n1 n2 _ _).setCell n1 n2 _ _).setCell n1 n2 _ _).setCell n1 n2 _ _).setCell n1 n2 _ _).kept (World.grownBy_alloc _ _ none) (by simp) (by simp))
      · have g4 := HO3.out.2.trans (HG4.out.but (some b))
        refine World.grownBy.trans ?_ (World.grownBy_alloc _ _ _)
        repeat (first | exact g4 | refine World.grownBy.set ?_ (Nat.le_refl _) _ _)
end Go.Proofs.Ytanhibhcmfmeeaa.Win
/- What is collected of a map's places, sorted, is the store's places. -/
namespace Go.Proofs.Ytanhibhcmfmeeaa.Win
open Go.RowKit Go.Maps
def Coll (m : St) (left : Lit → Bool) (out : List P2) : Prop :=
  out.Nodup ∧ ∀ p, p ∈ out ↔ W2 p ∧ (look m p).isSome = true ∧ left (kl2 p) = false
theorem Coll.start {D : DataW Unit} {m : St} (h : Agr D m) : Coll m (Maps.has D) [] := by
  refine ⟨List.nodup_nil, fun p => ⟨fun h => (by cases h), fun ⟨h1, h2, h3⟩ => ?_⟩⟩
  rw [(h.2.2 _ h1).2, h2] at h3
  cases h3
theorem sameKl {p q : P2} (hp : W2 p) (hq : W2 q) : (kl2 p).sameKey (kl2 q) = decide (p = q) := by
  by_cases h : p = q
  · subst h; rw [WideAt.sameKey_self (isKey2 hp), decide_eq_true rfl]
  · rw [decide_eq_false h]
    exact Maps.sameKey_ne fun e => h (kl2_inj hp hq e)
theorem Coll.step {m : St} {left : Lit → Bool} {out : List P2} (h : Coll m left out) {p0 : P2} (hp0 : W2 p0) (hat : (look m p0).isSome = true) (hlk : left (kl2 p0) = true) :
    Coll m (fun z => left z && !z.sameKey (kl2 p0)) (out ++ [p0]) := by
  have hnot : p0 ∉ out := fun hm => by
    have := ((h.2 p0).1 hm).2.2
    rw [hlk] at this; cases this
  refine ⟨List.nodup_append.2 ⟨h.1, by simp, fun a ha b hb => ?_⟩, fun p => ?_⟩
  · obtain rfl : b = p0 := by simpa using hb
    exact fun e => hnot (e ▸ ha)
  · rw [List.mem_append, h.2 p, List.mem_singleton]
    constructor
    · rintro (⟨h1, h2, h3⟩ | rfl)
      · exact ⟨h1, h2, by simp [h3]⟩
      · refine ⟨hp0, hat, ?_⟩
        simp only [sameKl hp0 hp0, decide_true, Bool.not_true, Bool.and_false]
    · rintro ⟨h1, h2, h3⟩
      simp only [sameKl h1 hp0] at h3
      by_cases e : p = p0
      · exact .inr e
      · rw [decide_eq_false e] at h3
        exact .inl ⟨h1, h2, by simpa using h3⟩
theorem sorted_uniq : ∀ {a b : List P2}, a.Pairwise ltW → b.Pairwise ltW → (∀ x, x ∈ a ↔ x ∈ b) → a = b
  | [], [], _, _, _ => rfl
  | [], y :: _, _, _, h => by have := (h y).2 List.mem_cons_self; cases this
  | x :: _, [], _, _, h => by have := (h x).1 List.mem_cons_self; cases this
  | x :: r, y :: s, ha, hb, h => by
    obtain ⟨a1, a2⟩ := List.pairwise_cons.1 ha
    obtain ⟨b1, b2⟩ := List.pairwise_cons.1 hb
    have e : x = y := by
      rcases List.mem_cons.1 ((h x).1 List.mem_cons_self) with e | e
      · exact e
      · rcases List.mem_cons.1 ((h y).2 List.mem_cons_self) with e' | e'
        · exact e'.symm
        · exact absurd (ltW_trans (b1 _ e) (a1 _ e')) (ltW_irr _)
    subst e
    refine congrArg (x :: ·) (sorted_uniq a2 b2 fun z => ⟨fun hz => ?_, fun hz => ?_⟩)
    · rcases List.mem_cons.1 ((h z).1 (List.mem_cons_of_mem _ hz)) with e | e
      · subst e; exact absurd (a1 _ hz) (ltW_irr _)
      · exact e
    · rcases List.mem_cons.1 ((h z).2 (List.mem_cons_of_mem _ hz)) with e | e
      · subst e; exact absurd (b1 _ hz) (ltW_irr _)
      · exact e
theorem look_some {m : St} {p : P2} : (look m p).isSome = true ↔ p ∈ m.map (·.1) := by
  cases h : look m p with
  | none =>
    simp only [Option.isSome_none, Bool.false_eq_true, List.mem_map, false_iff]
    rintro ⟨x, hx, rfl⟩
    exact look_none.1 h x hx rfl
  | some v => simpa using ⟨v, look_mem h⟩
def places (m : St) : List P2 := m.map (·.1)
theorem Coll.done {m : St} {left : Lit → Bool} {out out' : List P2} (h : Coll m left out) (hl0 : ∀ k, left k = false) (hs : Sorted m) (hw : ∀ x ∈ m, W2 x.1) (hp : out'.Perm out) (ho : out'.Pairwise fun a b => ¬ ltW b a) : out' = places m := by
  refine sorted_uniq ?_ (List.pairwise_map.2 hs) fun x => ?_
  · have hn : out'.Pairwise fun a b => a ≠ b := (hp.pairwise_iff (fun {a b} (h : a ≠ b) => h.symm)).2 h.1
    exact (hn.and ho).imp fun ⟨a, b⟩ => (ltW_total a).resolve_right b
  · rw [hp.mem_iff, h.2 x, look_some]
    constructor
    · exact fun ⟨_, b, _⟩ => b
    · intro hx
      refine ⟨?_, hx, hl0 _⟩
      obtain ⟨y, hy, rfl⟩ := List.mem_map.1 hx
      exact hw y hy
end Go.Proofs.Ytanhibhcmfmeeaa.Win
/- The closure that compares two places. -/
namespace Go.Proofs.Ytanhibhcmfmeeaa.Win
open Go.RowKit Go.Lib Go.Sort
def cfP (x y : P2) : Int := if ltW x y then -1 else 1
theorem cfP_lt (x y : P2) : cfP x y < 0 ↔ ltW x y := by unfold cfP; split <;> simp_all
set_option maxRecDepth 100000 in
set_option maxHeartbeats 4000000 in
theorem clo_calls (x y : P2) (W : World) : Calls Try.prog 63 #[val2 x, val2 y] W fun e w' => e = .returned (.int .i64 (cfP x y)) ∧ ∃ q os', w' = grow (W.drewN q) os' := by
  obtain ⟨x1, x2⟩ := x
  obtain ⟨y1, y2⟩ := y
  unfold val2 mkP
  simp only
  have fin : ∃ q os', (W.alloc (.cells #[.int .i64 x1, .int .i64 x2] 104)).alloc (.cells #[.int .i64 y1, .int .i64 y2] 104) = grow (W.drewN q) os' := ⟨0, _, by rw [alloc_eq_grow, alloc_eq_grow, grow_grow]; rfl⟩
  have F := Lib.hid fin
  clear fin
  by_cases h1 : x1 < y1
  · rw [show cfP (x1, x2) (y1, y2) = -1 from if_pos (Or.inl h1)]
    go_enter Try.func63, Try.ntmps63
    go_wp2
    go_ret
    exact ⟨rfl, F.out⟩
  · have b1 : decide (x1 < y1) = false := decide_eq_false h1
    by_cases h2 : x1 = y1
    · subst h2
      have b2 : (x1 == x1) = true := by simp
      by_cases h3 : x2 < y2
      · rw [show cfP (x1, x2) (x1, y2) = -1 from if_pos (Or.inr ⟨rfl, h3⟩)]
        go_enter Try.func63, Try.ntmps63
        go_wp2
        go_ret
        exact ⟨rfl, F.out⟩
      · have b3 : decide (x2 < y2) = false := decide_eq_false h3
        rw [show cfP (x1, x2) (x1, y2) = 1 from if_neg (by unfold ltW; simp only; omega)]
        go_enter Try.func63, Try.ntmps63
        go_wp2
        go_ret
        exact ⟨rfl, F.out⟩
    · have b2 : (x1 == y1) = false := beq_eq_false_iff_ne.2 h2
      rw [show cfP (x1, x2) (y1, y2) = 1 from if_neg (by unfold ltW; simp only; omega)]
      go_enter Try.func63, Try.ntmps63
      go_wp2
      go_ret
      exact ⟨rfl, F.out⟩
end Go.Proofs.Ytanhibhcmfmeeaa.Win
/- The sort of places: what it leaves, in a row of the call's own. -/
namespace Go.Proofs.Ytanhibhcmfmeeaa.Win
open Go.Shelf Go.RowKit Go.Lib Go.Sort Go.Proofs Go.Proofs.YtanhibhcmfmeeaaW.PrintWords
shelf_lay_g SlLaysF0.n6 Slsf 6 at Try 62 as Try.sortPl
def encP (x : P2) : List Value := [.int .i64 x.1, .int .i64 x.2]
abbrev K2 : Kd P2 := Kd.pair (Kd.int .i64) (Kd.int .i64)
theorem K2_M (w : World) (base : Nat) (ok : Nat → Prop) (x : P2) : K2.M w base ok x (encP x) := ⟨[.int .i64 x.1], _, rfl, rfl, rfl⟩
theorem encP_len (x : P2) : (encP x).length = 2 := rfl
theorem encP_one (x : P2) : ∀ v ∈ encP x, v.oneCell' = true := by
  intro v hv
  simp [encP] at hv
  rcases hv with rfl | rfl <;> rfl
theorem fm_len (l : List P2) : (l.flatMap encP).length = l.length * 2 := by
  induction l with
  | nil => rfl
  | cons x r ih => rw [List.flatMap_cons, List.length_append, ih, encP_len, List.length_cons]; omega
theorem fm_get : ∀ (l : List P2) (t : Nat), (l.flatMap encP)[t]? = (l[t / 2]?).bind fun x => (encP x)[t % 2]?
  | [], t => by simp
  | x :: r, t => by
    rw [List.flatMap_cons]
    by_cases h : t < 2
    · rw [List.getElem?_append_left (by rw [encP_len]; exact h), Nat.div_eq_of_lt h, Nat.mod_eq_of_lt h]; rfl
    · rw [List.getElem?_append_right (by rw [encP_len]; omega), encP_len, fm_get r (t - 2)]
      have e1 : (t - 2) / 2 = t / 2 - 1 := by omega
      have e2 : (t - 2) % 2 = t % 2 := by omega
      have e3 : t / 2 = (t / 2 - 1) + 1 := by omega
      rw [e1, e2]
      conv => rhs; rw [e3, List.getElem?_cons_succ]
theorem fm_drop : ∀ (l : List P2) (j : Nat) (p : P2), l[j]? = some p → ((l.flatMap encP).drop (j * 2)).take 2 = encP p
  | [], j, p, h => by simp at h
  | x :: r, 0, p, h => by
    obtain rfl : x = p := by simpa using h
    rw [List.flatMap_cons, Nat.zero_mul, List.drop_zero]
    exact List.take_left' (encP_len x)
  | x :: r, j + 1, p, h => by
    rw [List.flatMap_cons, Nat.succ_mul, Nat.add_comm, ← List.drop_drop, List.drop_left' (encP_len x)]
    exact fm_drop r j p (by simpa using h)
theorem reps (w : World) (base : Nat) (ok : Nat → Prop) (l : List P2) : Reps (K2.M w base ok) 2 l (l.flatMap encP) :=
  ⟨fm_len l, fun j p h => by rw [fm_drop l j p h]; exact K2_M _ _ _ _⟩
theorem own_R {w : World} {base : Nat} {v : Value} {l : List P2} (h : w.ownsRow base 104 2 v l.length (l.flatMap encP)) : K2.R 104 w base (fun _ => True) v l :=
  ⟨fun _ _ => trivial, _, h, reps _ _ _ _⟩
theorem flat_list (d : Array P2) : (flatK encP 2 d).toList = d.toList.flatMap encP := by
  apply List.ext_getElem?
  intro t
  rw [fm_get]
  by_cases h : t < d.size * 2
  · have h2' : t / 2 < d.size := by omega
    have hm : t % 2 < 2 := Nat.mod_lt _ (by decide)
    rw [List.getElem?_eq_getElem (l := d.toList) (by rw [Array.length_toList]; exact h2'), Option.bind_some]
    have e : (flatK encP 2 d).toList[t]? = some ((encP d[t / 2]!)[t % 2]!) := by
      simp [flatK, h]
    rw [e, getElem!_pos d (t / 2) h2', getElem!_pos _ (t % 2) (by rw [encP_len]; exact hm), List.getElem?_eq_getElem (by rw [encP_len]; exact hm)]
    rfl
  · rw [List.getElem?_eq_none (by simp; omega), List.getElem?_eq_none (l := d.toList) (by simp; omega)]; rfl
theorem flat_size (d : Array P2) : (flatK encP 2 d).size = d.size * 2 := size_flatK _ _ _
theorem holds2_ {w : World} {g : Nat} {cur : Array Value} {e : TypeId} {l : List P2} (hb : w.heap[g]? = some (.cells cur e (0, 0))) (ht : cur.toList.take (l.length * 2) = l.flatMap encP) : HoldsK encP 2 w g 0 l.toArray := by
  intro j hj
  have hj' : j < l.length * 2 := by rw [flat_size] at hj; simpa using hj
  refine ⟨?_, by simp [World.frozen?, hb]⟩
  have h1 : (cur.toList.take (l.length * 2))[j]? = (flatK encP 2 l.toArray).toList[j]? := by rw [ht, flat_list]
  rw [List.getElem?_take_of_lt hj', List.getElem?_eq_getElem (l := (flatK encP 2 l.toArray).toList) (by simpa using hj)] at h1
  simp only [World.cell?, hb, Nat.zero_add]
  simp only [Option.isSome_none, Bool.false_eq_true, if_false]
  rw [← Array.getElem?_toList, h1, getElem!_pos _ j hj]
  rfl
theorem heap2_ {w : World} {g n : Nat} {os : Array Obj} {cur : Array Value} {e : TypeId} {fr : Nat × Nat} (d : Array P2) (hb : w.heap[g]? = some (.cells cur e fr)) :
    (sortWorldK encP 2 w g 0 n d os).heap[g]? = some (.cells (putCells id 0 (flatK encP 2 d) cur) e fr) := by
  have hg : g < w.heap.size := (Array.getElem?_eq_some_iff.1 hb).1
  unfold sortWorldK putRowK
  rw [heap_grow_old _ _ (by simpa using hg)]
  simp [putRow, mapBlock, Sort.ahead, Array.getElem?_modify, hb, onCells]
theorem grown2_ {w : World} {g n : Nat} {os : Array Obj} (d : Array P2) : w.grownBy (sortWorldK encP 2 w g 0 n d os) (some g) := by
  unfold sortWorldK putRowK
  refine ⟨rfl, rfl, rfl, by simp, fun k hk hne => ?_⟩
  rw [heap_grow_old _ _ (by simpa using hk)]
  have : g ≠ k := fun e => hne (by rw [e])
  simp [putRow, mapBlock, Sort.ahead, Array.getElem?_modify, this]
theorem take2_ (cur : Array Value) (ys : List Value) (F : Array Value) (hF : F.toList = ys) (h : ys.length ≤ cur.size) : (putCells id 0 F cur).toList.take ys.length = ys := by
  subst hF
  apply List.ext_getElem?
  intro j
  by_cases hj : j < F.size
  · rw [List.getElem?_take_of_lt (by simpa using hj), Array.getElem?_toList]
    simp at h
    simp [putCells, hj, show j < cur.size by omega]
  · rw [List.getElem?_take_eq_none (by simp; omega), List.getElem?_eq_none (by simp; omega)]
theorem own2_ {w : World} {base g cap n : Nat} {e : TypeId} {os : Array Obj} {cur : Array Value} {m : Nat} (d : Array P2) (hd : d.size = m) (hbase : base ≤ g) (hb : w.heap[g]? = some (.cells cur e (0, 0))) (h1 : m ≤ cap) (h2 : cap ≤ maxLen) (h3 : cur.size = cap * 2) :
    (sortWorldK encP 2 w g 0 n d os).ownsRow base e 2 (.slice (some ⟨g, 0, none⟩) m cap) m (d.toList.flatMap encP) := by
  have hl : (d.toList.flatMap encP).length = m * 2 := by rw [fm_len]; simp [hd]
  refine ⟨hl, .inr ⟨g, cap, _, rfl, hbase, heap2_ d hb, h1, h2, by simp [putCells, h3], ?_⟩⟩
  rw [← hl]
  exact take2_ cur _ _ (flat_list d) (by rw [hl, h3]; exact Nat.mul_le_mul_right _ h1)
theorem ltP (x y : P2) : ltOf cfP x y = decide (ltW x y) := by
  unfold ltOf
  by_cases h : ltW x y
  · rw [decide_eq_true h, decide_eq_true ((cfP_lt x y).2 h)]
  · rw [decide_eq_false h, decide_eq_false (fun h' => h ((cfP_lt x y).1 h'))]
theorem swoP : SWO (ltOf cfP) where
  irrefl x := by rw [ltP]; exact decide_eq_false (ltW_irr _)
  trans x y z h1 h2 := by
    rw [ltP] at *
    exact decide_eq_true (ltW_trans (of_decide_eq_true h1) (of_decide_eq_true h2))
  ntrans x y z h1 h2 := by
    rw [ltP] at *
    have h1 := of_decide_eq_false h1
    have h2 := of_decide_eq_false h2
    refine decide_eq_false ?_
    unfold ltW at *
    omega
theorem perm2_ {d d' : Array P2} (h : PermIn 0 d.size d d') : d'.size = d.size ∧ d'.toList.Perm d.toList := by
  obtain ⟨h1, _, h3⟩ := h
  refine ⟨h1, ?_⟩
  have e : d'.extract 0 d.size = d' := by rw [← h1]; exact Array.extract_size
  rwa [e, Array.extract_size] at h3
theorem sorted2_ {d' : Array P2} {n : Nat} (hn : d'.size = n) (h : SortedIn (ltOf cfP) 0 n d') : d'.toList.Pairwise fun a b => ¬ ltW b a := by
  rw [List.pairwise_iff_getElem]
  intro i j hi hj hij
  have hi' : i < d'.size := by simpa using hi
  have hj' : j < d'.size := by simpa using hj
  have := h i j (Nat.zero_le _) hij (by omega)
  rw [ltP, getElem!_pos d' i hi', getElem!_pos d' j hj'] at this
  exact of_decide_eq_false this
theorem isAggP (w : World) : (isAgg 104).run Try.prog w = .ok true w := by have h := Try.isAgg104; exact h w
theorem sizeP_ (w : World) : (Go.sizeOf 104).run Try.prog w = .ok 2 w := by have h := Try.sizeOf104; exact h w
/-- The sort at a row of the call's own. -/
theorem sort_calls (v : Value) (out : List P2) (w : World) (base : Nat) (hown : w.ownsRow base 104 2 v out.length (out.flatMap encP)) (hn : out.length ≤ 1000000) :
    Calls Try.prog 62 #[v, .func (.func 63) #[] #[]] w fun e w' => e = .returned (.tuple #[]) ∧ ∃ out' : List P2, out'.Perm out ∧ (out'.Pairwise fun a b => ¬ ltW b a) ∧ w'.ownsRow base 104 2 v out'.length (out'.flatMap encP) ∧ w.grownBy w' v.ownBlock := by
  obtain ⟨hlen, hown⟩ := hown
  rcases hown with ⟨rfl, h0⟩ | ⟨g, cap, cur, rfl, hbase, hb, h1, h2, h3, h4⟩
  · have hnil : out = [] := List.length_eq_zero_iff.1 h0
    subst hnil
    have hcon := AnyF.slices_SortFunc_none { Try.sortPl with } none 0 (.func (.func 63) #[] #[]) w
    refine hcon.mono ?_
    rintro e w' ⟨rfl, rfl⟩
    exact ⟨rfl, [], .refl _, .nil, ⟨rfl, .inl ⟨rfl, rfl⟩⟩, World.grownBy.refl _ _⟩
  · have eg : ∀ args w, (callFunc 63 args).run Try.prog w = .ok (.enter 63 args) w := enters_of Try.func63 (by kernel_rfl) rfl
    have hg : g < w.heap.size := (Array.getElem?_eq_some_iff.1 hb).1
    have hsz : out.toArray.size = out.length := by simp
    have hcon := AnyQ.slices_SortFunc Try.sortPl 2 isAggP sizeP_ encP encP_len encP_one cfP swoP 63 #[] g 0 cap out.toArray w eg (fun _ _ _ _ x y => clo_calls x y _) (holds2_ hb h4) hg (by rw [hsz]; omega)
    rw [hsz] at hcon
    refine hcon.mono ?_
    rintro e w' ⟨rfl, d', n, os, hp, hs, rfl⟩
    have hp' : PermIn 0 out.toArray.size out.toArray d' := by rw [hsz]; exact hp
    obtain ⟨q1, q2⟩ := perm2_ hp'
    rw [hsz] at q1
    have ho := own2_ (w := w) (n := n) (os := os) (base := base) d' q1 hbase hb h1 h2 h3
    have q3 : d'.toList.length = out.length := by simpa using q1
    refine ⟨rfl, d'.toList, by simpa using q2, sorted2_ q1 hs, ?_, grown2_ d'⟩
    rw [q3]; exact ho
end Go.Proofs.Ytanhibhcmfmeeaa.Win
/- The walk of places. -/
namespace Go.Proofs.Ytanhibhcmfmeeaa.Win
open Go.RowKit Go.Maps Go.Proofs.YtanhibhcmfmeeaaW.PrintWords Go.Proofs.YtanhibhcmfmeeaaW.PrintMore Go.Proofs.Ytanhibhcmfmeeaa.Cut
structure PP where
  p : P2
structure CC where
  c : Int
theorem val2_inj {p q : P2} (e : val2 p = val2 q) : p = q := by
  obtain ⟨a, b⟩ := p
  obtain ⟨d, e1⟩ := q
  simp only [val2, mkP, Value.agg.injEq, Array.mk.injEq, List.cons.injEq, Value.int.injEq, true_and, and_true] at e
  obtain ⟨rfl, rfl⟩ := e
  rfl
theorem keyOf_inv2 {v : Value} {l : Lit} (h : keyOf Try.prog 104 v = some l) : ∃ p, v = val2 p ∧ l = kl2 p ∧ W2 p := by
  obtain ⟨a, b, h1, h2, h3, h4⟩ := keyOf_inv h
  exact ⟨(a, b), h1, h2, h3, h4⟩
theorem PE_inv {v : Value} {z : DataW Unit × List MemPlace} (h : PE v = some z) : ∃ c, v = .int .i64 c := by
  obtain ⟨a, ha, _⟩ := plainElem_int_inv Try.underlying2 h
  exact ⟨a, ha⟩
theorem row_grown {w w1 : World} {base n : Nat} {v : Value} {xs : List Value} {row : Option Nat} (h : w.ownsRow base 104 2 v n xs) (hg : w.grownBy w1 row) (hne : row = none ∨ row ≠ v.ownBlock) : w1.ownsRow base 104 2 v n xs :=
  own_move h fun k hk => hg.block k (h.lt k hk).2 fun e => by
    rcases hne with h1 | h1
    · rw [h1] at e; cases e
    · exact h1 (by rw [← e, hk])
theorem row_ne_map {w : World} {base n m b : Nat} {v : Value} {xs : List Value} {D : DataW Unit} (h : w.ownsRow base 104 2 v n xs) (hm : w.ownsMap Try.prog 104 PE b m D) : some b ≠ v.ownBlock := by
  obtain ⟨_, _, hit, _⟩ := hm
  rcases h.2 with ⟨rfl, _⟩ | ⟨g, cap, cur, rfl, _, hb, _⟩
  · simp [Value.ownBlock]
  · intro e1
    have : b = g := by simpa [Value.ownBlock] using e1
    subst this
    rw [hit] at hb
    cases hb
theorem row_ne_iter {w : World} {base n m b r : Nat} {v : Value} {xs : List Value} {D : DataW Unit} {left : Lit → Bool} {cnt : Nat} (h : w.ownsRow base 104 2 v n xs) (hm : w.ranges Try.prog 104 PE b r m D left cnt) : some r ≠ v.ownBlock := by
  obtain ⟨_, _, _, _, _, _, _, _, _, hit, _⟩ := hm
  rcases h.2 with ⟨rfl, _⟩ | ⟨g, cap, cur, rfl, _, hb, _⟩
  · simp [Value.ownBlock]
  · intro e1
    have : r = g := by simpa [Value.ownBlock] using e1
    subst this
    rw [hit] at hb
    cases hb
def RelP (w wx : World) (m : St) (b r : Nat) (D : DataW Unit) (v : Value) (left : Lit → Bool) (cnt : Nat) (out : List P2) : Prop :=
  wx.ranges Try.prog 104 PE b r m.length D left cnt ∧ cnt + out.length ≤ m.length ∧ wx.ownsRow w.heap.size 104 2 v out.length (out.flatMap encP) ∧ Coll m left out ∧ Below w.heap.size w wx
theorem infoPl : (Try.prog.info? 104).map (fun i => (i.zero, i.size, i.bytes)) = some (some (.agg #[.int .i64 0, .int .i64 0]), 2, 16) := by kernel_rfl
theorem cells_alloc2 (w : World) (a b : Int) (t : TypeId) : let W := w.alloc (.cells #[.int .i64 a, .int .i64 b] t)
    W.cell? ⟨w.heap.size, 0, none⟩ = some (.int .i64 a) ∧ W.cell? ⟨w.heap.size, 1, none⟩ = some (.int .i64 b) := by simp
set_option maxRecDepth 100000 in
set_option maxHeartbeats 4000000 in
theorem places_calls {w : World} {s : Nat} {room size : Int} {b : Nat} {m : St} (h : Own w s room size b m) :
    Calls Try.prog 42 #[.pointer (some ⟨s, 0, none⟩)] w fun e w' => ∃ v, e = .returned v ∧ w'.ownsRow w.heap.size 104 2 v (places m).length ((places m).flatMap encP) ∧ Below w.heap.size w w' := by
  obtain ⟨c0, c1, c2⟩ := h.cells
  obtain ⟨D, hown, hA⟩ := h.map
  have HA := Lib.hid hA
  have HS := Lib.hid (And.intro h.sorted (fun x hx => (h.wf x hx).1))
  have hml : m.length ≤ 1000000 := by have h1 := h.fits; have h2 := h.rng; omega
  have hB : Below w.heap.size w w := Below.refl _ _
  clear h hA
  go_enter Try.func42, Try.ntmps42
  go_wp2_with (first
    | (at_range; refine wpList_range_own _ rfl _ 106 rfl 104 2 keyedP Try.underlying106 PE b m.length D rfl hown ?_; intro w0 hrg0 hg0 hs0)
    | go_in)
  go_frame
  have hB0 := hB.grown hg0 hB.size (fun j hj => by cases hj)
  obtain ⟨r, hr⟩ : ∃ r, w.heap.size = r := ⟨_, rfl⟩
  have hBs : b < w.heap.size := hown.lt
  rw [hr] at hrg0 ⊢
  go_loopw [3] (fun v wx => ∃ (left : Lit → Bool) (cnt : Nat) (out : List P2), RelP w wx m b r D v left cnt out) (fun _ wx => wx.rangeLeft b r)
  case atStart => exact ⟨_, _, [], hrg0, by have := hown.size_le; simpa using this, ⟨rfl, .inl ⟨rfl, rfl⟩⟩, Coll.start HA.out, hB0⟩
  case round =>
    clear hg0 hs0 hrg0 hown hB0 hB
    obtain ⟨left, cnt, out, hrel⟩ := hrel
    have HR := Lib.hid hrel
    have hrg := hrel.1
    clear hrel
    go_wp2_with (first
      | (at_next; refine wpList_next_ranges _ rfl _ rfl 104 keyedP PE (fun x : PP => val2 x.p) (fun x : CC => .int .i64 x.c) (fun _ _ h => by obtain ⟨x, hx, _⟩ := keyOf_inv2 h; exact ⟨⟨x⟩, hx⟩) (fun _ _ h => by obtain ⟨x, hx⟩ := PE_inv h; exact ⟨⟨x⟩, hx⟩) b r m.length D left cnt rfl hrg ?_ ?_)
      | go_in)
    · intro hc0 hl0
      obtain ⟨hrg', hcn, hrow, hcoll, hb⟩ := HR.out
      have HX := Lib.hid (And.intro (And.intro hcoll hl0) (And.intro hb hrow))
      have hon : out.length ≤ 1000000 := by omega
      clear hrg hrg' hcn hrow hcoll hb HR hl0
      go_wp2_with (go_at_call 62; refine (sort_calls u3 out _ w.heap.size HX.out.2.2 hon).mono ?_; rintro e w' ⟨rfl, out', hp, hs, hown', hg'⟩)
      have he := HX.out.1.1.done HX.out.1.2 HS.out.1 HS.out.2 hp hs
      subst he
      have hfin := HX.out.2.1.grown hg' HX.out.2.1.size (fun j hj => (HX.out.2.2.lt j hj).1)
      have HF := Lib.hid (And.intro hown' hfin)
      clear hp hs hown' hg' hfin
      go_ret
      exact ⟨u3, by simp, HF.out.1, HF.out.2⟩
    · intro ⟨p⟩ ⟨c0⟩ kl y yp w1 cnt1 hkey hlk hv hat hrg1 hlt1 hg1 hs1 hen
      try simp only at hkey hv hen
      obtain ⟨p', e1, rfl, hp⟩ := keyOf_inv2 hkey
      obtain rfl := val2_inj e1
      have hlo : (look m p).isSome = true := by
        rw [← (HA.out.2.2 p hp).2]
        exact has_true_of_atKey hat
      obtain ⟨hrg, hcn, hrow, hcoll, hb⟩ := HR.out
      have hst := hcoll.step hp hlo hlk
      have hrow1 := row_grown hrow hg1 (.inr (row_ne_iter hrow hrg))
      have hb1 := hb.grown hg1 hb.size (fun j hj => by cases hj; rw [hr]; exact Nat.le_refl _)
      have HX := Lib.hid (And.intro (And.intro hrg1 (And.intro hlt1 hrg.left_eq)) (And.intro (And.intro hst hrow1) (And.intro hb1 hcn)))
      clear hrg hcn hrow hcoll hb hst hrow1 hb1 hrg1 hlt1 hg1 hs1 hkey hlk hat e1 HR hp hlo
      obtain ⟨x1, x2⟩ := p
      simp only [val2, mkP] at hen ⊢
      go_upto_region 7 with (fail)
      have f0 := cells_alloc2 w1 x1 x2 104
      have g0 := row_grown HX.out.2.1.2 (World.grownBy_alloc w1 (.cells #[.int .i64 x1, .int .i64 x2] 104) none) (.inl rfl)
      have g1 := HX.out.2.2.1.alloc HX.out.2.2.1.size (.cells #[.int .i64 x1, .int .i64 x2] 104)
      have g2 := HX.out.1.1.alloc (.cells #[.int .i64 x1, .int .i64 x2] 104)
      generalize w1.alloc (.cells #[.int .i64 x1, .int .i64 x2] 104) = W1 at f0 g0 g1 g2 ⊢
      obtain ⟨f0, f1⟩ := f0
      have G0 := Lib.hid g0; have G1 := Lib.hid g1; have G2 := Lib.hid g2
      have HX2 := Lib.hid (And.intro HX.out.1.2 (And.intro HX.out.2.1.1 HX.out.2.2.2))
      have hl16 : (out.length + 1) * 16 ≤ 140737488355328 := by have := HX.out.2.2.2; omega
      clear g0 g1 g2 HX
      go_wp2_with (first
        | ((with_reducible refine gate_builtin (b := .append) (xs := #[.tmp 16, .tmp 18]) rfl ?_); at_builtin; refine print_append_cells w.heap.size rfl (.tmp 16) (.tmp 18) 101 104 (.agg #[.int .i64 0, .int .i64 0]) 2 16 rfl Try.underlying101 infoPl rfl (by decide) (by decide) u3 out.length (out.flatMap encP) [.int .i64 x1, .int .i64 x2] rfl rfl rfl (encP_one (x1, x2)) G0.out G1.out G1.out.size hl16 ?_; intro v1 w3 hown3 hb3 hg3 hat3)
        | go_in)
      have hc2 := HX2.out.2.1
      have hr2 := G2.out.kept hg3 (row_ne_map G0.out G2.out.owns) (row_ne_iter G0.out G2.out)
      refine ⟨⟨_, cnt1, out ++ [(x1, x2)], hr2, ?_, ?_, hc2, hb3⟩, ?_⟩
      · have h1 := HX2.out.2.2; have h2 := HX2.out.1.1; rw [List.length_append, List.length_singleton]; omega
      · rw [List.length_append, List.length_singleton, List.flatMap_append]; exact hown3
      · rw [hr2.left_eq, HX2.out.1.2]; exact HX2.out.1.1
end Go.Proofs.Ytanhibhcmfmeeaa.Win
/- Rows of changes, rows of places, as they are read; what is taken away of a map. -/
namespace Go.Proofs.Ytanhibhcmfmeeaa.Win
open Go.RowKit Go.Maps Go.Proofs.YtanhibhcmfmeeaaW.PrintWords Go.Proofs.YtanhibhcmfmeeaaW.PrintMore Go.Proofs.Ytanhibhcmfmeeaa.Cut
abbrev T5 := Int × Int × Int × Int × Bool
def encC (x : T5) : List Value := [.int .i64 x.1, .int .i64 x.2.1, .int .i64 x.2.2.1, .int .i64 x.2.2.2.1, .bool x.2.2.2.2]
abbrev K5 : Kd T5 := Kd.pair (Kd.int .i64) (Kd.pair (Kd.int .i64) (Kd.pair (Kd.int .i64) (Kd.pair (Kd.int .i64) Kd.bool)))
theorem K5_M (w : World) (base : Nat) (ok : Nat → Prop) (x : T5) : K5.M w base ok x (encC x) := ⟨[.int .i64 x.1], _, rfl, rfl, ⟨[.int .i64 x.2.1], _, rfl, rfl, ⟨[.int .i64 x.2.2.1], _, rfl, rfl, ⟨[.int .i64 x.2.2.2.1], _, rfl, rfl, rfl⟩⟩⟩⟩
theorem at_C5 {w : World} {A : Option Addr} {n : Nat} {l : List T5} (h : K5.C w A n l) (i : Nat) (hi : i < n) : ∃ ad x, A = some ad ∧ l[i]? = some x ∧ w.cell? (ad.add (i * 5)) = some (.int .i64 x.1) ∧ w.cell? ⟨(ad.add (i * 5)).block, (ad.add (i * 5)).off + 1, none⟩ = some (.int .i64 x.2.1) ∧
    w.cell? ⟨(ad.add (i * 5)).block, (ad.add (i * 5)).off + 2, none⟩ = some (.int .i64 x.2.2.1) ∧ w.cell? ⟨(ad.add (i * 5)).block, (ad.add (i * 5)).off + 3, none⟩ = some (.int .i64 x.2.2.2.1) ∧ w.cell? ⟨(ad.add (i * 5)).block, (ad.add (i * 5)).off + 4, none⟩ = some (.bool x.2.2.2.2) := by
  obtain ⟨hl, _, h⟩ := h
  obtain ⟨ad, hA, hc⟩ := h (by omega)
  have hil : i < l.length := by omega
  obtain ⟨cs, _, hk, hat⟩ := hc i (l[i]) (List.getElem?_eq_getElem hil)
  have e1 : K5.sz = 5 := rfl
  rw [e1] at hat
  obtain ⟨_, _, rfl, rfl, ⟨_, _, rfl, rfl, ⟨_, _, rfl, rfl, ⟨_, _, rfl, rfl, rfl⟩⟩⟩⟩ := hk
  refine ⟨ad, l[i], hA, List.getElem?_eq_getElem hil, hat 0 _ rfl, ?_, ?_, ?_, ?_⟩
  · rw [← add_field _ _ 1 (by omega)]; exact hat 1 _ rfl
  · rw [← add_field _ _ 2 (by omega)]; exact hat 2 _ rfl
  · rw [← add_field _ _ 3 (by omega)]; exact hat 3 _ rfl
  · rw [← add_field _ _ 4 (by omega)]; exact hat 4 _ rfl
theorem at_C2 {w : World} {A : Option Addr} {n : Nat} {l : List P2} (h : K2.C w A n l) (i : Nat) (hi : i < n) : ∃ ad x, A = some ad ∧ l[i]? = some x ∧ w.cell? (ad.add (i * 2)) = some (.int .i64 x.1) ∧ w.cell? ⟨(ad.add (i * 2)).block, (ad.add (i * 2)).off + 1, none⟩ = some (.int .i64 x.2) := by
  obtain ⟨hl, _, h⟩ := h
  obtain ⟨ad, hA, hc⟩ := h (by omega)
  have hil : i < l.length := by omega
  obtain ⟨cs, _, hk, hat⟩ := hc i (l[i]) (List.getElem?_eq_getElem hil)
  have e1 : K2.sz = 2 := rfl
  rw [e1] at hat
  obtain ⟨_, _, rfl, rfl, rfl⟩ := hk
  refine ⟨ad, l[i], hA, List.getElem?_eq_getElem hil, hat 0 _ rfl, ?_⟩
  rw [← add_field _ _ 1 (by omega)]; exact hat 1 _ rfl
def chgT (size : Int) (x : P2 × Int) (d : Bool) : T5 := (x.1.2, x.1.1, x.1.1 + size, x.2, d)
theorem infoC : (Try.prog.info? 50).map (fun i => (i.zero, i.size, i.bytes)) = some (some (.agg #[.int .i64 0, .int .i64 0, .int .i64 0, .int .i64 0, .bool false]), 5, 40) := by kernel_rfl
theorem del_len {m : St} (hs : Sorted m) (p : P2) : (del p m).length + (if (look m p).isSome = true then 1 else 0) = m.length := by
  induction m with
  | nil => simp [del, look]
  | cons y r ih =>
    obtain ⟨h1, h2⟩ := List.pairwise_cons.1 hs
    have ih := ih h2
    unfold del at ih ⊢
    by_cases e : y.1 = p
    · have hn : look r p = none := look_none.2 fun x hx e' => by
        have := h1 x hx
        rw [e, e'] at this; exact ltW_irr _ this
      rw [List.filter_cons_of_neg (by simpa using e), look, if_pos e]
      rw [hn] at ih
      simp at ih ⊢
      omega
    · rw [List.filter_cons_of_pos (by simpa using e), look, if_neg e]
      simp only [List.length_cons] at ih ⊢
      omega
theorem Agr.del {D : DataW Unit} {m : St} (h : Agr D m) (hs : Sorted m) {p : P2} (hp : W2 p) : Agr (D.del (kl2 p)) (del p m) := by
  refine ⟨h.1.del _, ?_, fun q hq => ?_⟩
  · have h1 := Maps.size_del (k := kl2 p) h.1
    have h2 := del_len hs p
    rw [(h.2.2 p hp).2, h.2.1] at h1
    omega
  · rw [look_del p q m]
    by_cases e : p = q
    · subst e
      rw [if_pos rfl, Maps.atKey_del_same, Maps.has_del_same]
      exact ⟨rfl, rfl⟩
    · have hne : kl2 q ≠ kl2 p := fun h' => e (kl2_inj hp hq h'.symm)
      rw [if_neg e, Maps.atKey_del_other hne, Maps.has_del_other hne]
      exact h.2.2 q hq
theorem Own.drop {w : World} {s : Nat} {room size : Int} {b : Nat} {m : St} (h : Own w s room size b m) {p : P2} (hp : W2 p) (ty : TypeId) :
    ∃ w2, (Builtin.delete_ #[106, 104] ty #[.map (some b), val2 p]).run Try.prog w = .ok (.tuple #[]) w2 ∧ Own w2 s room size b (del p m) ∧ w.grownBy w2 (some b) ∧ w2.heap.size = w.heap.size := by
  obtain ⟨D, hD, hA⟩ := h.map
  have hr := h.rng
  obtain ⟨w2, hrun, hD2, hT⟩ := hD.drop keyedP Try.underlying106 (keyOf_2 hp) ty
  have hA2 := hA.del h.sorted hp
  have hg := hT.grown
  have hz : w2.heap.size = w.heap.size := by
    obtain ⟨_, _, _, _, _, rfl⟩ := hT
    simp [Go.ChangeMaps.setBlock]
  have hle := h.fits
  have hlen := del_len h.sorted p
  have hlen2 : (Win.del p m).length ≤ m.length := by omega
  refine ⟨w2, hrun, ⟨?_, ⟨_, ?_, hA2⟩, sorted_del p h.sorted, ?_, hr, by omega⟩, hg, hz⟩
  · refine (hg.block s h.lt.1 ?_).trans h.row
    intro e
    exact h.lt.2.2 (Option.some.inj e)
  · have hsz := hA2.2.1
    obtain ⟨es, clock, hb, F, _, hDe⟩ := hD2
    refine ⟨es, clock, hb, F, ?_, hDe⟩
    rw [hDe] at hsz
    rw [← hsz, Maps.size_eq, length_sorted]
    simp
  · intro x hx
    exact h.wf x (List.mem_filter.1 hx).1
theorem Own.ne_row {w : World} {s : Nat} {room size : Int} {b : Nat} {m : St} (h : Own w s room size b m) {base e n sz : Nat} {v : Value} {xs : List Value} (hr : w.ownsRow base e sz v n xs) (he : e ≠ 108) : some s ≠ v.ownBlock ∧ some b ≠ v.ownBlock := by
  obtain ⟨D, ⟨_, _, hb, _⟩, _⟩ := h.map
  refine ⟨fun e1 => ?_, fun e1 => ?_⟩
  · obtain ⟨cells, hc⟩ := own_typed hr s e1.symm
    rw [h.row] at hc
    injection hc with hc
    injection hc with _ hc
    exact he hc.symm
  · obtain ⟨cells, hc⟩ := own_typed hr b e1.symm
    rw [hb] at hc
    cases hc
theorem rows_ne {w : World} {base e n sz base' e' n' sz' : Nat} {v v' : Value} {xs xs' : List Value} (h : w.ownsRow base e sz v n xs) (h' : w.ownsRow base' e' sz' v' n' xs') (he : e ≠ e') : v'.ownBlock = none ∨ v'.ownBlock ≠ v.ownBlock := by
  cases hk : v'.ownBlock with
  | none => exact .inl rfl
  | some k =>
    refine .inr fun e1 => ?_
    obtain ⟨c1, hc1⟩ := own_typed h k e1.symm
    obtain ⟨c2, hc2⟩ := own_typed h' k hk
    rw [hc1] at hc2
    injection hc2 with hc2
    injection hc2 with _ hc2
    exact he hc2
end Go.Proofs.Ytanhibhcmfmeeaa.Win
/- List. -/
namespace Go.Proofs.Ytanhibhcmfmeeaa.Win
open Go.RowKit Go.Maps Go.Proofs.YtanhibhcmfmeeaaW.PrintWords Go.Proofs.YtanhibhcmfmeeaaW.PrintMore Go.Proofs.Ytanhibhcmfmeeaa.Cut
set_option maxRecDepth 100000 in
theorem Own.look1 {w : World} {s : Nat} {room size : Int} {b : Nat} {m : St} (h : Own w s room size b m) {p : P2} (hp : W2 p) :
    (Instr.lookup 106 (.map (some b)) (val2 p) false).run Try.prog w = .ok (.int .i64 ((look m p).getD 0)) w := by
  obtain ⟨D, hD, hA⟩ := h.map
  obtain ⟨c, hrun, hc, _⟩ := hD.lookup_int keyedP Try.underlying106 Try.underlying2 (by kernel_rfl) (keyOf_2 hp)
  rw [(hA.2.2 p hp).1] at hc
  have h2 : (look m p).getD 0 = c := by injection hc with h1; injection h1
  rw [h2]; exact hrun
def listT (size : Int) (m : St) : List T5 := m.map fun x => chgT size x false
theorem reps2 (w : World) (base : Nat) (ok : Nat → Prop) (l : List P2) : Reps (K2.M w base ok) 2 l (l.flatMap encP) :=
  ⟨fm_len l, fun j p h => by rw [fm_drop l j p h]; exact K2_M _ _ _ _⟩
theorem own_R2 {w : World} {base : Nat} {v : Value} {l : List P2} (h : w.ownsRow base 104 2 v l.length (l.flatMap encP)) : K2.R 104 w base (fun _ => True) v l :=
  ⟨fun _ _ => trivial, _, h, reps2 _ _ _ _⟩
theorem mem_pos {size : Int} {m : St} (h : ∀ x ∈ m, W2 x.1 ∧ W64 x.2 ∧ 0 ≤ x.1.1 ∧ startF size x.1.1 = x.1.1) (hs : 1 ≤ size) : ∀ x ∈ m, W2 x.1 ∧ 0 ≤ x.1.1 ∧ x.1.1 ≤ 1099511627776 := fun x hx => by
  obtain ⟨h1, _, h3, h4⟩ := h x hx
  exact ⟨h1, h3, by rw [← h4]; exact startF_le hs⟩
theorem look_at {m : St} (hs : Sorted m) {i : Nat} {x : P2 × Int} (h : m[i]? = some x) : look m x.1 = some x.2 := by
  induction m generalizing i with
  | nil => simp at h
  | cons y r ih =>
    obtain ⟨h1, h2⟩ := List.pairwise_cons.1 hs
    cases i with
    | zero =>
      obtain rfl : y = x := by simpa using h
      rw [look, if_pos rfl]
    | succ i =>
      have hx : r[i]? = some x := by simpa using h
      have hm := List.mem_of_getElem? hx
      rw [look, if_neg (fun e => by have := h1 x hm; rw [e] at this; exact ltW_irr _ this)]
      exact ih h2 hx
theorem places_at {m : St} {i : Nat} {p : P2} (h : (places m)[i]? = some p) : ∃ v, m[i]? = some (p, v) := by
  unfold places at h
  rw [List.getElem?_map] at h
  obtain ⟨q, hq, rfl⟩ := Option.map_eq_some_iff.1 h
  exact ⟨q.2, hq⟩
theorem listT_snoc {size : Int} {m : St} {k : Nat} {x : P2 × Int} (h : m[k]? = some x) : (listT size m).take (k + 1) = (listT size m).take k ++ [chgT size x false] := by
  unfold listT
  obtain ⟨hl, rfl⟩ := List.getElem?_eq_some_iff.1 h
  rw [List.take_succ_eq_append_getElem (by simpa using hl)]
  simp
set_option maxRecDepth 100000 in
set_option maxHeartbeats 4000000 in
theorem list_calls {w : World} {s : Nat} {room size : Int} {b : Nat} {m : St} (h : Own w s room size b m) :
    Calls Try.prog 118 #[.pointer (some ⟨s, 0, none⟩)] w fun e w' => ∃ v, e = .returned v ∧ K5.R 50 w' w.heap.size (fun _ => True) v (listT size m) ∧ Below w.heap.size w w' := by
  have hpl := places_calls h
  have hpos := mem_pos h.wf h.rng.2.2.1
  have HP := Lib.hid hpos
  have HS := Lib.hid h.sorted
  have HO := Lib.hid h
  have hml : m.length ≤ 1000000 := by have h1 := h.fits; have h2 := h.rng; omega
  have hpn : (places m).length = m.length := List.length_map _
  rw [hpn] at hpl
  have HN := Lib.hid hpn
  clear h hpos hpn
  obtain ⟨n, hn⟩ : ∃ n, n = m.length := ⟨_, rfl⟩
  rw [← hn] at hpl hml
  have HM := Lib.hid hn
  clear hn
  go_enter Try.func118, Try.ntmps118
  go_wp2_with (go_at_call 42; refine hpl.mono ?_; rintro e w1 ⟨v, rfl, hrow, hB⟩; obtain ⟨A, c, hv, hnc, _⟩ := Kd.R_reads (own_R2 (by rw [HN.out, ← HM.out]; exact hrow)); rw [HN.out, ← HM.out] at hv hnc; subst hv)
  have hO1 := HO.out.kept (row := none) ⟨hB.os, hB.tape, hB.output, hB.size, fun k hk _ => hB.block k hk⟩ (by simp) (by simp)
  have H1 := Lib.hid (And.intro hO1 (And.intro hrow hB))
  clear hpl hrow hB hO1 HO
  go_loopw [3, 10] (fun u3 i wx => ∃ k : Nat, k ≤ n ∧ i = .int .i64 k ∧ Own wx s room size b m ∧ wx.ownsRow w.heap.size 104 2 (.slice A n c) n ((places m).flatMap encP) ∧ K5.R 50 wx w.heap.size (fun _ => True) u3 ((listT size m).take k) ∧ Below w.heap.size w wx) (fun _ i _ => n - (intOf i).toNat)
  case atStart => exact ⟨0, Nat.zero_le _, rfl, H1.out.1, H1.out.2.1, Kd.R_nil _ _ _ _ _, H1.out.2.2⟩
  case round =>
    clear H1
    obtain ⟨k, hk, rfl, hO, hrow, hR, hB⟩ := hrel
    by_cases hlt : k < n
    · have hlti : (k : Int) < (n : Int) := by omega
      have hk0 : (0 : Int) ≤ (k : Int) := by omega
      obtain ⟨A', c', hv', _, hC⟩ := Kd.R_reads (own_R2 (by rw [HN.out, ← HM.out]; exact hrow))
      rw [HN.out, ← HM.out] at hC hv'
      obtain ⟨rfl, rfl⟩ : A = A' ∧ c = c' := by injection hv' with h1 h2 h3; exact ⟨h1, h3⟩
      obtain ⟨ad, x, rfl, hx, d0, d1⟩ := at_C2 hC k hlt
      obtain ⟨val, hm⟩ := places_at hx
      obtain ⟨hwx, hp0, hp1⟩ := HP.out _ (List.mem_of_getElem? hm)
      obtain ⟨x1, x2⟩ := x
      simp only at d0 d1 hp0 hp1
      have HA := Lib.hid (And.intro hO (And.intro hrow (And.intro hR hB)))
      have HMv := Lib.hid (And.intro hm hwx)
      have hch := change_calls (hO.kept (World.grownBy_alloc wr (.cells #[.int .i64 x1, .int .i64 x2] 104) none) (by simp) (by simp)) (x1, x2) ⟨hp0, hp1⟩
      simp only [chg] at hch
      clear hC hv' hx hm hO hrow hR hB hwx
      go_upto_region 6 with (go_at_call 43; refine hch.mono ?_; rintro e w2 ⟨rfl, hg2⟩)
      have hg3 : wr.grownBy (w2.alloc (.cells #[.int .i64 x2, .int .i64 x1, .int .i64 (x1 + size), .int .i64 0, .bool false] 50)) none := ((World.grownBy_alloc _ _ _).trans hg2).trans (World.grownBy_alloc _ _ _)
      have hz2 : wr.heap.size + 1 ≤ w2.heap.size := by have := hg2.size; simpa using this
      have b0 : w2.cell? ⟨wr.heap.size, 0, none⟩ = some (.int .i64 x1) := (World.cell?_of_block (hg2.block wr.heap.size (by simp) (by simp))).trans (by simp)
      have b1 : w2.cell? ⟨wr.heap.size, 1, none⟩ = some (.int .i64 x2) := (World.cell?_of_block (hg2.block wr.heap.size (by simp) (by simp))).trans (by simp)
      have q0 : (w2.alloc (.cells #[.int .i64 x2, .int .i64 x1, .int .i64 (x1 + size), .int .i64 0, .bool false] 50)).cell? ⟨wr.heap.size, 0, none⟩ = some (.int .i64 x1) := by rw [← b0]; exact World.cell?_of_block ((MapKept.heap_alloc _ _).2 _ (by simp only; omega))
      have q1 : (w2.alloc (.cells #[.int .i64 x2, .int .i64 x1, .int .i64 (x1 + size), .int .i64 0, .bool false] 50)).cell? ⟨wr.heap.size, 1, none⟩ = some (.int .i64 x2) := by rw [← b1]; exact World.cell?_of_block ((MapKept.heap_alloc _ _).2 _ (by simp only; omega))
      have hblk := (MapKept.heap_alloc w2 (.cells #[.int .i64 x2, .int .i64 x1, .int .i64 (x1 + size), .int .i64 0, .bool false] 50)).1
      clear hch hg2 b0 b1 d0 d1
      generalize w2.alloc (.cells #[.int .i64 x2, .int .i64 x1, .int .i64 (x1 + size), .int .i64 0, .bool false] 50) = W3 at *
      generalize w2.heap.size = g at *
      clear w2
      have HO3 := HA.out.1.kept hg3 (by simp) (by simp)
      obtain ⟨c0, c1, c2⟩ := HO3.cells
      have hlk : ∀ n, (Instr.lookup 106 (.map (some b)) (val2 (x1, x2)) false).run Try.prog (W3.drewN n) = .ok (.int .i64 val) (W3.drewN n) := fun n => by
        have h1 := (HO3.drewN n).look1 HMv.out.2
        rw [look_at HS.out HMv.out.1] at h1
        exact h1
      simp only [val2, mkP] at hlk
      have hlk1 : (Instr.lookup 106 (.map (some b)) (.agg #[.int .i64 x1, .int .i64 x2]) false).run Try.prog W3.drew = .ok (.int .i64 val) W3.drew := hlk 1
      have z3 : W3.cell? ⟨g, 3, none⟩ = some (.int .i64 0) := (blk_cell hblk 3).trans rfl
      have y3 := blk_frozen hblk 3
      clear hlk HO3
      refine wp_region_still_tail 7 (by kernel_rfl) (by kernel_rfl) ?_
      simp only [List.take_succ_cons, List.take_zero, List.drop_succ_cons, List.drop_zero]
      change wpStill _ _ W3.drew _ _ _
      repeat still_step
      refine wpStill_nil ?_
      change wpList _ _ _ _ _ W3.drew
      clear hlk1
      have hg4 : wr.grownBy W3.drew none := grown_drew hg3
      have hb4 : W3.drew.heap[g]? = some (.cells #[.int .i64 x2, .int .i64 x1, .int .i64 (x1 + size), .int .i64 0, .bool false] 50 (0, 0)) := hblk
      have z3' : W3.drew.cell? ⟨g, 3, none⟩ = some (.int .i64 0) := z3
      have y3' : W3.drew.frozen? ⟨g, 3, none⟩ = false := y3
      clear hg3 hblk z3 y3 q0 q1 c0 c1 c2
      generalize W3.drew = W4 at *
      go_upto_region 7 with fail
      have hg5 := World.grownBy.set hg4 (i := g) (by omega) 3 (.int .i64 val)
      have hb5 := blk_put (cs' := #[.int .i64 x2, .int .i64 x1, .int .i64 (x1 + size), .int .i64 val, .bool false]) hb4 3 (.int .i64 val) (by simp)
      clear z3' y3' hg4 hb4
      generalize W4.setCell ⟨g, 3, none⟩ (.int .i64 val) = W5 at *
      have z0 := (blk_cell hb5 0).trans rfl
      have z1 := (blk_cell hb5 1).trans rfl
      have z2 := (blk_cell hb5 2).trans rfl
      have z3 := (blk_cell hb5 3).trans rfl
      have z4 := (blk_cell hb5 4).trans rfl
      have HO5 := Lib.hid (HA.out.1.kept hg5 (by simp) (by simp))
      have HW5 := Lib.hid (row_grown HA.out.2.1 hg5 (.inl rfl))
      have HR5 := Lib.hid (Kd.R_grown HA.out.2.2.1 hg5 (fun k _ => by simp))
      have HB5 := Lib.hid (HA.out.2.2.2.grown hg5 HA.out.2.2.2.size (fun j hj => by cases hj))
      have hl40 : (((listT size m).take k).length + 1) * 40 ≤ 140737488355328 := by have := List.length_take_le k (listT size m); omega
      clear HA hg5 hb5 W3
      go_wp2_with (first
        | ((with_reducible refine gate_builtin (b := .append) (xs := #[.tmp 24, .tmp 26]) rfl ?_); at_builtin; refine Kd.R_append K5 (w0 := w) w.heap.size rfl (.tmp 24) (.tmp 26) 37 50 (.agg #[.int .i64 0, .int .i64 0, .int .i64 0, .int .i64 0, .bool false]) 40 rfl Try.underlying37 infoC rfl (by decide) (by decide) u3 ((listT size m).take k) (x2, x1, x1 + size, val, false) (encC (x2, x1, x1 + size, val, false)) (fun _ => True) (fun _ => False) rfl rfl (K5_M _ _ _ _) (fun _ hk => hk.elim) (fun _ _ => trivial) HR5.out HB5.out HB5.out.size hl40 ?_; intro v1 w6 hR6 hb6 hg6 hat6)
        | go_in)
      obtain ⟨inner, hin⟩ := Kd.R_own HR5.out
      have ne1 := HO5.out.ne_row hin (by decide)
      have hO6 := HO5.out.kept hg6 ne1.1 ne1.2
      have hW6 := row_grown HW5.out hg6 (rows_ne HW5.out hin (by decide))
      have hR7 : K5.R 50 w6 w.heap.size (fun _ => True) v1 ((listT size m).take (k + 1)) := by rw [listT_snoc HMv.out.1]; exact hR6
      have HF := Lib.hid (And.intro hO6 (And.intro hW6 (And.intro hR7 hb6)))
      clear hR6 hb6 hg6 hat6 hin ne1 hO6 hW6 hR7 HO5 HW5 HR5 HB5
      go_wp2
      go_roundw
      case rel => exact ⟨k + 1, by omega, by go_num, HF.out.1, HF.out.2.1, HF.out.2.2.1, HF.out.2.2.2⟩
      case measure => simp [intOf]; omega
    · obtain rfl : k = n := by omega
      rw [List.take_of_length_le (by unfold listT; rw [List.length_map, HM.out]; exact Nat.le_refl _)] at hR
      have HR := Lib.hid (And.intro hR hB)
      clear hO hrow hR hB
      go_wp2
      go_ret
      exact ⟨u3, rfl, HR.out.1, HR.out.2⟩
end Go.Proofs.Ytanhibhcmfmeeaa.Win
/- Expire. -/
namespace Go.Proofs.Ytanhibhcmfmeeaa.Win
open Go.RowKit Go.Maps Go.Proofs.YtanhibhcmfmeeaaW.PrintWords Go.Proofs.YtanhibhcmfmeeaaW.PrintMore Go.Proofs.Ytanhibhcmfmeeaa.Cut
def endedB (size before : Int) (x : P2 × Int) : Bool := decide (x.1.1 + size ≤ before)
def goneT (size : Int) (x : P2 × Int) : T5 := (x.1.2, x.1.1, x.1.1 + size, 0, true)
def outT (size before : Int) (m : St) : List T5 := (m.takeWhile (endedB size before)).map (goneT size)
def restM (size before : Int) (m : St) : St := m.dropWhile (endedB size before)
theorem while_at {α : Type} {p : α → Bool} : ∀ {m : List α} {k : Nat}, (∀ x ∈ m.take k, p x = true) → (∀ x, m[k]? = some x → p x = false) → m.takeWhile p = m.take k ∧ m.dropWhile p = m.drop k
  | [], k, _, _ => by simp
  | y :: r, 0, _, h => by
    have := h y rfl
    simp [this]
  | y :: r, k + 1, h1, h2 => by
    have hy := h1 y (by simp)
    obtain ⟨e1, e2⟩ := while_at (m := r) (k := k) (fun x hx => h1 x (by simp [hx])) (fun x hx => h2 x (by simpa using hx))
    simp [hy, e1, e2]
theorem del_head {m : St} (hs : Sorted m) {k : Nat} {x : P2 × Int} (h : m[k]? = some x) : del x.1 (m.drop k) = m.drop (k + 1) := by
  obtain ⟨hl, rfl⟩ := List.getElem?_eq_some_iff.1 h
  have hd : m.drop k = m[k] :: m.drop (k + 1) := List.drop_eq_getElem_cons hl
  have hs2 : Sorted (m.drop k) := hs.sublist (List.drop_sublist _ _)
  rw [hd] at hs2 ⊢
  obtain ⟨h1, _⟩ := List.pairwise_cons.1 hs2
  unfold del
  rw [List.filter_cons_of_neg (by simp)]
  refine List.filter_eq_self.2 fun y hy => ?_
  have := h1 y hy
  simp only [ne_eq, decide_eq_true_eq]
  intro e
  rw [e] at this
  exact ltW_irr _ this
theorem take_snoc' {α : Type} {l : List α} {k : Nat} {x : α} (h : l[k]? = some x) : l.take (k + 1) = l.take k ++ [x] := by
  obtain ⟨hl, rfl⟩ := List.getElem?_eq_some_iff.1 h
  exact List.take_succ_eq_append_getElem hl
theorem R_grown_below {α : Type} {d : Kd α} {e base : Nat} {w w1 : World} {ok : Nat → Prop} {v : Value} {xs : List α} (h : d.R e w base ok v xs) {b : Nat} (hg : w.grownBy w1 (some b)) (hb : b < base) : d.R e w1 base ok v xs :=
  Kd.R_mono (Kd.R_move (Kd.R_bound h) (fun k hk => hg.block k hk.2.2.1 (fun e => by have := Option.some.inj e; have := hk.2.1; omega))) (fun _ hk => hk.1)
set_option maxRecDepth 100000 in
set_option maxHeartbeats 4000000 in
theorem expire_calls {w : World} {s : Nat} {room size : Int} {b : Nat} {m : St} (h : Own w s room size b m) (before : Int) :
    Calls Try.prog 27 #[.pointer (some ⟨s, 0, none⟩), .int .i64 before] w fun e w' => ∃ v, e = .returned v ∧ K5.R 50 w' w.heap.size (fun _ => True) v (outT size before m) ∧ Own w' s room size b (restM size before m) ∧ w.grownBy w' (some b) := by
  have hpl := places_calls h
  have hpos := mem_pos h.wf h.rng.2.2.1
  have HP := Lib.hid hpos
  have HS := Lib.hid h.sorted
  have HO := Lib.hid h
  have hb0 := h.lt.2.1
  have hml : m.length ≤ 1000000 := by have h1 := h.fits; have h2 := h.rng; omega
  have hpn : (places m).length = m.length := List.length_map _
  rw [hpn] at hpl
  have HN := Lib.hid hpn
  clear h hpos hpn
  obtain ⟨n, hn⟩ : ∃ n, n = m.length := ⟨_, rfl⟩
  rw [← hn] at hpl hml
  have HM := Lib.hid hn
  clear hn
  go_enter Try.func27, Try.ntmps27
  go_wp2_with (go_at_call 42; refine hpl.mono ?_; rintro e w1 ⟨v, rfl, hrow, hB⟩; obtain ⟨A, c, hv, hnc, _⟩ := Kd.R_reads (own_R2 (by rw [HN.out, ← HM.out]; exact hrow)); rw [HN.out, ← HM.out] at hv hnc; subst hv)
  have hO1 := HO.out.kept (row := none) ⟨hB.os, hB.tape, hB.output, hB.size, fun k hk _ => hB.block k hk⟩ (by simp) (by simp)
  have H1 := Lib.hid (And.intro hO1 (And.intro hrow hB))
  clear hpl hrow hB hO1 HO
  go_loopw [5, 12] (fun u3 i wx => ∃ k : Nat, k ≤ n ∧ i = .int .i64 k ∧ Own wx s room size b (m.drop k) ∧ wx.ownsRow w.heap.size 104 2 (.slice A n c) n ((places m).flatMap encP) ∧ K5.R 50 wx w.heap.size (fun _ => True) u3 ((m.take k).map (goneT size)) ∧ (∀ x ∈ m.take k, endedB size before x = true) ∧ w.grownBy wx (some b)) (fun _ i _ => n - (intOf i).toNat)
  case atStart => exact ⟨0, Nat.zero_le _, rfl, H1.out.1, H1.out.2.1, Kd.R_nil _ _ _ _ _, by simp, ⟨H1.out.2.2.os, H1.out.2.2.tape, H1.out.2.2.output, H1.out.2.2.size, fun k hk _ => H1.out.2.2.block k hk⟩⟩
  case round =>
    clear H1
    obtain ⟨k, hk, rfl, hO, hrow, hR, hE, hB⟩ := hrel
    by_cases hlt : k < n
    · have hlti : (k : Int) < (n : Int) := by omega
      have hk0 : (0 : Int) ≤ (k : Int) := by omega
      obtain ⟨A', c', hv', _, hC⟩ := Kd.R_reads (own_R2 (by rw [HN.out, ← HM.out]; exact hrow))
      rw [HN.out, ← HM.out] at hC hv'
      obtain ⟨rfl, rfl⟩ : A = A' ∧ c = c' := by injection hv' with h1 h2 h3; exact ⟨h1, h3⟩
      obtain ⟨ad, x, rfl, hx, d0, d1⟩ := at_C2 hC k hlt
      obtain ⟨val, hm⟩ := places_at hx
      obtain ⟨hwx, hp0, hp1⟩ := HP.out _ (List.mem_of_getElem? hm)
      obtain ⟨x1, x2⟩ := x
      simp only at d0 d1 hp0 hp1
      have HA := Lib.hid (And.intro hO (And.intro hrow (And.intro hR (And.intro hE hB))))
      have HMv := Lib.hid (And.intro hm hwx)
      have hch := change_calls (hO.kept (World.grownBy_alloc wr (.cells #[.int .i64 x1, .int .i64 x2] 104) none) (by simp) (by simp)) (x1, x2) ⟨hp0, hp1⟩
      simp only [chg] at hch
      clear hC hv' hx hm hO hrow hR hE hB hwx
      by_cases hbr : x1 + size ≤ before
      · have hbr1 : decide (before < x1 + size) = false := decide_eq_false (by omega)
        go_upto_region 7 with (go_at_call 43; refine hch.mono ?_; rintro e w2 ⟨rfl, hg2⟩)
        have hg3 : wr.grownBy (w2.alloc (.cells #[.int .i64 x2, .int .i64 x1, .int .i64 (x1 + size), .int .i64 0, .bool false] 50)) none := ((World.grownBy_alloc _ _ _).trans hg2).trans (World.grownBy_alloc _ _ _)
        have hz2 : wr.heap.size + 1 ≤ w2.heap.size := by have := hg2.size; simpa using this
        have b0 : w2.cell? ⟨wr.heap.size, 0, none⟩ = some (.int .i64 x1) := (World.cell?_of_block (hg2.block wr.heap.size (by simp) (by simp))).trans (by simp)
        have b1 : w2.cell? ⟨wr.heap.size, 1, none⟩ = some (.int .i64 x2) := (World.cell?_of_block (hg2.block wr.heap.size (by simp) (by simp))).trans (by simp)
        have q0 : (w2.alloc (.cells #[.int .i64 x2, .int .i64 x1, .int .i64 (x1 + size), .int .i64 0, .bool false] 50)).cell? ⟨wr.heap.size, 0, none⟩ = some (.int .i64 x1) := by rw [← b0]; exact World.cell?_of_block ((MapKept.heap_alloc _ _).2 _ (by simp only; omega))
        have q1 : (w2.alloc (.cells #[.int .i64 x2, .int .i64 x1, .int .i64 (x1 + size), .int .i64 0, .bool false] 50)).cell? ⟨wr.heap.size, 1, none⟩ = some (.int .i64 x2) := by rw [← b1]; exact World.cell?_of_block ((MapKept.heap_alloc _ _).2 _ (by simp only; omega))
        have hblk := (MapKept.heap_alloc w2 (.cells #[.int .i64 x2, .int .i64 x1, .int .i64 (x1 + size), .int .i64 0, .bool false] 50)).1
        clear hch hg2 b0 b1 d0 d1 hbr1
        generalize w2.alloc (.cells #[.int .i64 x2, .int .i64 x1, .int .i64 (x1 + size), .int .i64 0, .bool false] 50) = W3 at *
        generalize w2.heap.size = g at *
        clear w2
        have HO3 := HA.out.1.kept hg3 (by simp) (by simp)
        have hg3' := Lib.hid (grown_drew hg3)
        have hblk' : W3.drew.heap[g]? = some (.cells #[.int .i64 x2, .int .i64 x1, .int .i64 (x1 + size), .int .i64 0, .bool false] 50 (0, 0)) := hblk
        obtain ⟨c0, c1, c2⟩ := HO3.cells
        have HO4 : Own W3.drew s room size b (m.drop k) := HO3.drewN 1
        clear HO3 hg3 hblk
        refine wp_region_still_tail 5 (by kernel_rfl) (by kernel_rfl) ?_
        simp only [List.take_succ_cons, List.take_zero, List.drop_succ_cons, List.drop_zero]
        change wpStill _ _ W3.drew _ _ _
        repeat still_step
        refine wpStill_nil ?_
        change wpList _ _ _ _ _ W3.drew
        clear q0 q1 c0 c1 c2
        generalize W3.drew = W4 at *
        clear W3
        have hdel := fun ty => HO4.drop (p := (x1, x2)) HMv.out.2 ty
        simp only [val2, mkP] at hdel
        obtain ⟨W5, hrun, hO5, hgb, hzz⟩ := hdel 0
        rw [del_head HS.out HMv.out.1] at hO5
        have hb5 := (hgb.block g (Array.getElem?_eq_some_iff.1 hblk').1 (fun e => by have h1 := Option.some.inj e; have h2 := HA.out.2.2.2.2.size; omega)).trans hblk'
        have H5 := Lib.hid (And.intro hO5 ((hg3'.out.but (some b)).trans hgb))
        have z4 := (blk_cell hb5 4).trans rfl
        have y4 := blk_frozen hb5 4
        have HB5 := Lib.hid hb5
        have hnb := HO4.lt.2.1
        clear hdel hO5 hgb hzz hg3' HO4 hblk' hb5
        go_upto_region 9 with fail
        have hg6 := World.grownBy.set H5.out.2 (i := g) (by omega) 4 (.bool true)
        have hb6 := blk_put (cs' := #[.int .i64 x2, .int .i64 x1, .int .i64 (x1 + size), .int .i64 0, .bool true]) HB5.out 4 (.bool true) (by simp)
        have hgs : s ≠ g ∧ b ≠ g := by
          have h1 := HA.out.1.lt
          exact ⟨by omega, by omega⟩
        have hO6 := H5.out.1.setCell hgs.1 hgs.2 4 (.bool true)
        clear z4 y4 hrun hnb H5
        generalize W5.setCell ⟨g, 4, none⟩ (.bool true) = W6 at *
        have z0 := (blk_cell hb6 0).trans rfl
        have z1 := (blk_cell hb6 1).trans rfl
        have z2 := (blk_cell hb6 2).trans rfl
        have z3 := (blk_cell hb6 3).trans rfl
        have z4 := (blk_cell hb6 4).trans rfl
        have HO6 := Lib.hid hO6
        have HW6 := Lib.hid (row_grown HA.out.2.1 hg6 (.inr (HA.out.1.ne_row HA.out.2.1 (by decide)).2))
        have HR6 := Lib.hid (R_grown_below HA.out.2.2.1 hg6 hb0)
        have HG6 := Lib.hid (HA.out.2.2.2.2.trans (⟨hg6.os, hg6.tape, hg6.output, hg6.size, hg6.block⟩ : wr.grownBy W6 (some b)))
        have HE := Lib.hid HA.out.2.2.2.1
        have hl40 : (((m.take k).map (goneT size)).length + 1) * 40 ≤ 140737488355328 := by rw [List.length_map]; have := List.length_take_le k m; omega
        clear HA hg6 hb6 hO6 HB5 hgs W5
        go_wp2_with (first
          | ((with_reducible refine gate_builtin (b := .append) (xs := #[.tmp 29, .tmp 31]) rfl ?_); at_builtin; refine Kd.R_append K5 (w0 := W6) w.heap.size rfl (.tmp 29) (.tmp 31) 37 50 (.agg #[.int .i64 0, .int .i64 0, .int .i64 0, .int .i64 0, .bool false]) 40 rfl Try.underlying37 infoC rfl (by decide) (by decide) u5 ((m.take k).map (goneT size)) (x2, x1, x1 + size, 0, true) (encC (x2, x1, x1 + size, 0, true)) (fun _ => True) (fun _ => False) rfl rfl (K5_M _ _ _ _) (fun _ hk => hk.elim) (fun _ _ => trivial) HR6.out (Below.refl _ _) HG6.out.size hl40 ?_; intro v1 w6 hR7 hb7 hg7 hat7)
          | go_in)
        obtain ⟨inner, hin⟩ := Kd.R_own HR6.out
        have ne1 := HO6.out.ne_row hin (by decide)
        have hO7 := HO6.out.kept hg7 ne1.1 ne1.2
        have hW7 := row_grown HW6.out hg7 (rows_ne HW6.out hin (by decide))
        have hR8 : K5.R 50 w6 w.heap.size (fun _ => True) v1 ((m.take (k + 1)).map (goneT size)) := by rw [take_snoc' HMv.out.1, List.map_append]; exact hR7
        have hG8 : w.grownBy w6 (some b) := HG6.out.andThen hg7 (fun j hj => .inl (own_base hin j hj))
        have hE8 : ∀ x ∈ m.take (k + 1), endedB size before x = true := by
          intro x hx
          rw [take_snoc' HMv.out.1] at hx
          rcases List.mem_append.1 hx with hx | hx
          · exact HE.out x hx
          · obtain rfl : x = ((x1, x2), val) := by simpa using hx
            exact decide_eq_true hbr
        have HF := Lib.hid (And.intro hO7 (And.intro hW7 (And.intro hR8 (And.intro hE8 hG8))))
        clear hR7 hb7 hg7 hat7 hin ne1 hO7 hW7 hR8 hG8 hE8 HO6 HW6 HR6 HG6 HE
        go_wp2
        go_roundw
        case rel => exact ⟨k + 1, by omega, by go_num, HF.out.1, HF.out.2.1, HF.out.2.2.1, HF.out.2.2.2.1, HF.out.2.2.2.2⟩
        case measure => simp [intOf]; omega
      · have hbr1 : decide (before < x1 + size) = true := decide_eq_true (by omega)
        go_wp2_with (go_at_call 43; refine hch.mono ?_; rintro e w2 ⟨rfl, hg2⟩)
        go_ret
        obtain ⟨e1, e2⟩ := while_at (m := m) (k := k) HA.out.2.2.2.1 (fun x hx => by
          rw [HMv.out.1] at hx
          obtain rfl := Option.some.inj hx
          exact decide_eq_false (by simp only; omega))
        have hg3 : wr.grownBy (w2.alloc (.cells #[.int .i64 x2, .int .i64 x1, .int .i64 (x1 + size), .int .i64 0, .bool false] 50)) none := ((World.grownBy_alloc _ _ _).trans hg2).trans (World.grownBy_alloc _ _ _)
        refine ⟨u5, rfl, ?_, ?_, HA.out.2.2.2.2.trans (hg3.but _)⟩
        · unfold outT; rw [e1]; exact Kd.R_grown HA.out.2.2.1 hg3 (fun k _ => by simp)
        · unfold restM; rw [e2]; exact HA.out.1.kept hg3 (by simp) (by simp)
    · obtain rfl : k = n := by omega
      obtain ⟨e1, e2⟩ := while_at (m := m) (k := k) hE (fun x hx => by have := (List.getElem?_eq_some_iff.1 hx).1; rw [← HM.out] at this; omega)
      have HR := Lib.hid (And.intro (And.intro e1 e2) (And.intro hR (And.intro hO hB)))
      clear hO hrow hR hB hE e1 e2
      go_wp2
      go_ret
      refine ⟨u5, rfl, ?_, ?_, HR.out.2.2.2⟩
      · unfold outT; rw [HR.out.1.1]; exact HR.out.2.1
      · unfold restM; rw [HR.out.1.2]; exact HR.out.2.2.1
end Go.Proofs.Ytanhibhcmfmeeaa.Win
/- Do. -/
namespace Go.Proofs.Ytanhibhcmfmeeaa.Win
open Go.RowKit Go.Maps Go.Proofs.YtanhibhcmfmeeaaW.PrintWords Go.Proofs.YtanhibhcmfmeeaaW.PrintMore Go.Proofs.Ytanhibhcmfmeeaa.Cut
set_option maxRecDepth 100000 in
set_option maxHeartbeats 1000000 in
theorem do_nil (c : T5) (w : World) : Calls Try.prog 117 #[.pointer none, .agg #[.int .i64 c.1, .int .i64 c.2.1, .int .i64 c.2.2.1, .int .i64 c.2.2.2.1, .bool c.2.2.2.2]] w fun e w' => e = .returned (.int .i64 3) ∧ w.grownBy w' none := by
  obtain ⟨c1, c2, c3, c4, c5⟩ := c
  go_enter Try.func117, Try.ntmps117
  go_wp2
  go_ret
  exact ⟨rfl, World.grownBy_alloc _ _ _⟩
theorem grown_undrew {a c : World} {n : Nat} {row : Option Nat} (h : (a.drewN n).grownBy c row) : a.grownBy c row := ⟨h.os, h.tape, h.output, h.size, h.block⟩
set_option maxRecDepth 100000 in
set_option maxHeartbeats 4000000 in
theorem do_put {w : World} {s : Nat} {room size : Int} {b : Nat} {m : St} (h : Own w s room size b m) (key f val : Int) (hk : W64 key) (hv : W64 val) (hw : W64 f) (hf : 0 ≤ f) (hfs : startF size f = f) (hm : look m (f, key) = none → (m.length : Int) < room) :
    Calls Try.prog 117 #[.pointer (some ⟨s, 0, none⟩), .agg #[.int .i64 key, .int .i64 f, .int .i64 (f + size), .int .i64 val, .bool false]] w fun e w' => e = .returned (.int .i64 0) ∧ Own w' s room size b (put (f, key) val m) ∧ w.grownBy w' (some b) := by
  have hg1 : w.grownBy (w.alloc (.cells #[.int .i64 key, .int .i64 f, .int .i64 (f + size), .int .i64 val, .bool false] 50)) none := World.grownBy_alloc _ _ _
  have hfb : f ≤ 1099511627776 := by rw [← hfs]; exact startF_le h.rng.2.2.1
  have hr := h.rng
  have hO1 := h.kept hg1 (by simp) (by simp)
  have hblk := (MapKept.heap_alloc w (.cells #[.int .i64 key, .int .i64 f, .int .i64 (f + size), .int .i64 val, .bool false] 50)).1
  have HG1 := Lib.hid hg1
  clear h hg1
  go_enter Try.func117, Try.ntmps117
  go_upto_region 3 with fail
  generalize w.alloc (.cells #[.int .i64 key, .int .i64 f, .int .i64 (f + size), .int .i64 val, .bool false] 50) = W at *
  have hst := start_calls hO1 f
  rw [hfs] at hst
  have hput := fun n => put_ok (hO1.drewN n) key f val hk hv (by rw [hfs]; exact hw) (by rw [hfs]; exact hf) (by rw [hfs]; exact hm)
  simp only [hfs, chg] at hput
  obtain ⟨c0, c1, c2⟩ := hO1.cells
  have z0 := (blk_cell hblk 0).trans rfl
  have z1 := (blk_cell hblk 1).trans rfl
  have z2 := (blk_cell hblk 2).trans rfl
  have z3 := (blk_cell hblk 3).trans rfl
  have z4 := (blk_cell hblk 4).trans rfl
  have b1 : decide (f < 0) = false := decide_eq_false (by omega)
  have b2 : (f != f) = false := by simp
  have e1 : IntKind.i64.wrap (f + size) = f + size := IntWalk.i64_in _ (by omega)
  have b3 : (f + size != f + size) = false := by simp
  clear hfs hm hO1 hblk
  go_wp2_with (go_at_call 29; refine hst.mono ?_; rintro e w' ⟨rfl, rfl⟩)
  go_quiet (fail)
  clear c0 c1 c2 e1
  go_wp2_with (go_at_call 39; refine (hput _).mono ?_; rintro e w2 ⟨rfl, hO2, hg2⟩)
  have HF := Lib.hid (And.intro hO2 hg2)
  clear hO2 hg2 hput hst
  go_ret
  refine ⟨rfl, HF.out.1.kept (World.grownBy_alloc _ _ none) (by simp) (by simp), ?_⟩
  exact ((HG1.out.but (some b)).trans (grown_undrew HF.out.2)).trans (World.grownBy_alloc _ _ _)
set_option maxRecDepth 100000 in
set_option maxHeartbeats 4000000 in
theorem do_del {w : World} {s : Nat} {room size : Int} {b : Nat} {m : St} (h : Own w s room size b m) (key f : Int) (hk : W64 key) (hw : W64 f) (hf : 0 ≤ f) (hfs : startF size f = f) (hm : (look m (f, key)).isSome = true) :
    Calls Try.prog 117 #[.pointer (some ⟨s, 0, none⟩), .agg #[.int .i64 key, .int .i64 f, .int .i64 (f + size), .int .i64 0, .bool true]] w fun e w' => e = .returned (.int .i64 0) ∧ Own w' s room size b (del (f, key) m) ∧ w.grownBy w' (some b) := by
  have hg1 : w.grownBy (w.alloc (.cells #[.int .i64 key, .int .i64 f, .int .i64 (f + size), .int .i64 0, .bool true] 50)) none := World.grownBy_alloc _ _ _
  have hfb : f ≤ 1099511627776 := by rw [← hfs]; exact startF_le h.rng.2.2.1
  have hr := h.rng
  have hO1 := h.kept hg1 (by simp) (by simp)
  have hblk := (MapKept.heap_alloc w (.cells #[.int .i64 key, .int .i64 f, .int .i64 (f + size), .int .i64 0, .bool true] 50)).1
  have HG1 := Lib.hid hg1
  clear h hg1
  go_enter Try.func117, Try.ntmps117
  go_upto_region 3 with fail
  generalize w.alloc (.cells #[.int .i64 key, .int .i64 f, .int .i64 (f + size), .int .i64 0, .bool true] 50) = W at *
  have hst := start_calls hO1 f
  rw [hfs] at hst
  obtain ⟨c0, c1, c2⟩ := hO1.cells
  have z0 := (blk_cell hblk 0).trans rfl
  have z1 := (blk_cell hblk 1).trans rfl
  have z2 := (blk_cell hblk 2).trans rfl
  have z3 := (blk_cell hblk 3).trans rfl
  have z4 := (blk_cell hblk 4).trans rfl
  have b1 : decide (f < 0) = false := decide_eq_false (by omega)
  have b2 : (f != f) = false := by simp
  have e1 : IntKind.i64.wrap (f + size) = f + size := IntWalk.i64_in _ (by omega)
  have b3 : (f + size != f + size) = false := by simp
  have b4 : ((0 : Int) != 0) = false := by simp
  have HO1 := Lib.hid hO1
  have HM := Lib.hid hm
  have HB := Lib.hid hblk
  clear hfs hm hO1 hblk
  go_upto_region 4 with (go_at_call 29; refine hst.mono ?_; rintro e w' ⟨rfl, rfl⟩)
  go_quiet (fail)
  rename Nat => n1
  have hO2 := HO1.out.drewN n1
  have hb2 : (w'.drewN n1).heap[w.heap.size]? = some (.cells #[.int .i64 key, .int .i64 f, .int .i64 (f + size), .int .i64 0, .bool true] 50 (0, 0)) := HB.out
  have hg2 : w.grownBy (w'.drewN n1) none := grown_drewN HG1.out n1
  clear z0 z1 z2 z3 z4 c0 c1 c2 hst HB HO1 HG1 b1 b2 b3 b4 e1
  generalize w'.drewN n1 = W2 at *
  clear w' n1
  have z0 := (blk_cell hb2 0).trans rfl
  have z1 := (blk_cell hb2 1).trans rfl
  have z2 := (blk_cell hb2 2).trans rfl
  have z3 := (blk_cell hb2 3).trans rfl
  have z4 := (blk_cell hb2 4).trans rfl
  clear hb2
  go_upto_region 10 with fail
  have hg3 := hg2.trans (World.grownBy_alloc W2 (.cells #[.int .i64 f, .int .i64 key] 104) none)
  have hO3 := hO2.kept (World.grownBy_alloc W2 (.cells #[.int .i64 f, .int .i64 key] 104) none) (by simp) (by simp)
  have q := cells_alloc2 W2 f key 104
  clear z0 z1 z2 z3 z4 hg2 hO2
  generalize W2.alloc (.cells #[.int .i64 f, .int .i64 key] 104) = W3 at *
  generalize W2.heap.size = g at *
  clear W2
  obtain ⟨q0, q1⟩ := q
  obtain ⟨c0, c1, c2⟩ := hO3.cells
  have hlk := fun n => (hO3.drewN n).lookup (p := (f, key)) ⟨hw, hk⟩
  obtain ⟨val, hv⟩ := Option.isSome_iff_exists.1 HM.out
  rw [hv] at hlk
  simp only [val2, mkP, Option.getD_some, Option.isSome_some] at hlk
  have HO3 := Lib.hid hO3
  have HG3 := Lib.hid hg3
  clear hv hO3 hg3
  go_quiet (fail)
  rename Nat => n1
  clear hlk
  have hO4 := (HO3.out.drewN n1).drewN 1
  have hg4 : w.grownBy ((W3.drewN n1).drewN 1) none := grown_drewN (grown_drewN HG3.out n1) 1
  have d0 : (W3.drewN n1).cell? ⟨s, 0, none⟩ = some (.int .i64 room) := c0
  have d1 : (W3.drewN n1).cell? ⟨s, 1, none⟩ = some (.int .i64 size) := c1
  have d2 : (W3.drewN n1).cell? ⟨s, 2, none⟩ = some (.map (some b)) := c2
  have p0 : (W3.drewN n1).cell? ⟨g, 0, none⟩ = some (.int .i64 f) := q0
  have p1 : (W3.drewN n1).cell? ⟨g, 1, none⟩ = some (.int .i64 key) := q1
  clear q0 q1 c0 c1 c2 HO3 HG3
  generalize W3.drewN n1 = W4 at *
  obtain ⟨W5, hrun, hO5, hgb, hzz⟩ := hO4.drop (p := (f, key)) ⟨hw, hk⟩ 0
  simp only [val2, mkP] at hrun
  have HF := Lib.hid (And.intro hO5 ((hg4.but (some b)).trans hgb))
  clear hO4 hg4 hO5 hgb hzz
  go_upto_region 13 with fail
  refine wp_region_still_tail 5 (by kernel_rfl) (by kernel_rfl) ?_
  simp only [List.take_succ_cons, List.take_zero, List.drop_succ_cons, List.drop_zero]
  change wpStill _ _ (W4.drewN 1) _ _ _
  repeat still_step
  refine wpStill_nil ?_
  change wpList _ _ _ _ _ (W4.drewN 1)
  clear d0 d1 d2 p0 p1
  generalize W4.drewN 1 = W6 at *
  go_wp2
  go_ret
  exact ⟨rfl, HF.out.1, HF.out.2⟩
end Go.Proofs.Ytanhibhcmfmeeaa.Win
