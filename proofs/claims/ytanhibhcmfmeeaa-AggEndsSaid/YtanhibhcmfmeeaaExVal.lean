import Derived.Test.YtanhibhcmfmeeaaExMay2
import Derived.WalkLawsBesides
import Derived.Lib.MinMax
import Derived.Deep.RegionWith
import Derived.RegionDies
/- The walks of one, two, value. -/
namespace Go.Proofs.Ytanhibhcmfmeeaa.Ex
open Go.RowKit Go.Proofs.YtanhibhcmfmeeaaW.PrintWords Go.Proofs.Ytanhibhcmfmeeaa.Cut Go.Proofs.Ytanhibhcmfmeeaa.Fr
def divPanic : List PanicEntry := [{ v := .iface 25 (.int .i64 10), recovered := false }]
def endV : Option Int → Ending
  | some v => .returned (.int .i64 v)
  | none => .panicked divPanic
set_option maxHeartbeats 1000000 in
theorem one_calls (b : Bool) (w : World) : Calls Try.prog 65 #[.bool b] w fun e w' => e = .returned (.int .i64 (if b = true then 1 else 0)) ∧ w' = w := by
  cases b
  all_goals
    go_enter Try.func65, Try.ntmps65
    go_wp2
    go_ret
    exact ⟨rfl, rfl⟩
def isTwo (op : Int) : Prop := op = 6 ∨ op = 7 ∨ op = 8 ∨ op = 9 ∨ op = 10 ∨ op = 11 ∨ op = 12 ∨ op = 15 ∨ op = 16
set_option maxHeartbeats 4000000 in
theorem two_calls (op a b : Int) (h : isTwo op) (w : World) : Calls Try.prog 49 #[.int .i64 op, .int .i64 a, .int .i64 b] w fun e w' => e = endV (twoF op a b) ∧ w' = w := by
  have h1 := fun c W => one_calls c W
  rcases h with rfl | rfl | rfl | rfl | rfl | rfl | rfl | rfl | rfl
  · go_enter Try.func49, Try.ntmps49
    go_wp2
    go_ret
    exact ⟨rfl, rfl⟩
  · go_enter Try.func49, Try.ntmps49
    go_wp2
    go_ret
    exact ⟨rfl, rfl⟩
  · go_enter Try.func49, Try.ntmps49
    go_wp2
    go_ret
    exact ⟨rfl, rfl⟩
  · by_cases hb : b = 0
    · subst hb
      go_enter Try.func49, Try.ntmps49
      go_wp2
      exact ⟨rfl, rfl, rfl⟩
    · have e : twoF 9 a b = some (wrap64 (a.tdiv b)) := by
        unfold twoF; simp [hb]
      rw [e]
      go_enter Try.func49, Try.ntmps49
      go_wp2
      go_ret
      exact ⟨rfl, rfl⟩
  · by_cases hb : b = 0
    · subst hb
      go_enter Try.func49, Try.ntmps49
      go_wp2
      exact ⟨rfl, rfl, rfl⟩
    · have e : twoF 10 a b = some (a.tmod b) := by
        unfold twoF; simp [hb]
      rw [e]
      go_enter Try.func49, Try.ntmps49
      go_wp2
      go_ret
      exact ⟨rfl, rfl⟩
  · go_enter Try.func49, Try.ntmps49
    go_wp2_with (go_at_call 65; refine (h1 _ _).mono ?_; rintro e w1 ⟨rfl, rfl⟩)
    all_goals
      have hx : a < b ∨ ¬ a < b := by omega
      go_ret
      exact ⟨by simp [twoF, endV, *], rfl⟩
  · go_enter Try.func49, Try.ntmps49
    go_wp2_with (go_at_call 65; refine (h1 _ _).mono ?_; rintro e w1 ⟨rfl, rfl⟩)
    all_goals
      have hx : a = b ∨ ¬ a = b := by omega
      go_ret
      exact ⟨by simp [twoF, endV, *], rfl⟩
  · go_enter Try.func49, Try.ntmps49
    go_wp2
    go_ret
    exact ⟨rfl, rfl⟩
  · go_enter Try.func49, Try.ntmps49
    go_wp2
    go_ret
    exact ⟨rfl, rfl⟩
def askV (q : Ask) : Value := .agg #[.int .i64 q.key, .int .i64 q.val, .int .i64 q.time, .int .i64 q.acc]
def ValP (q : Ask) (x : Ex) : Prop := ∀ (v : Value) (w : World), ExV w x v → Calls Try.prog 35 #[askV q, v] w fun e w' => e = endV (valF q x) ∧ Below w.heap.size w w'
set_option maxHeartbeats 4000000 in
theorem val_leaf (q : Ask) (op n : Int) (A : Option Addr) (c : Nat) (w : World) (h : op = 1 ∨ op = 2 ∨ op = 3 ∨ op = 4 ∨ op = 5) : Calls Try.prog 35 #[askV q, .agg #[.int .i64 op, .int .i64 n, .slice A 0 c]] w fun e w' => e = .returned (.int .i64 (leafF q op n)) ∧ Below w.heap.size w w' := by
  unfold askV
  rcases h with rfl | rfl | rfl | rfl | rfl
  all_goals
    go_enter Try.func35, Try.ntmps35
    go_wp2
    go_ret
    exact ⟨rfl, below_alloc (below_alloc (Below.refl _ _) _) _⟩
theorem kid_val {w : World} {q : Ask} {ks : List Ex} {A : Option Addr} (h : KidsR w ks A) (i : Nat) (x : Ex) (hx : ks[i]? = some x) (hv : ValP q x) : ∃ ad o m B k c, A = some ad ∧ ∀ p, ad.add (i * 3) = p → ∀ W, Below w.heap.size w W →
    W.cell? p = some (.int .i64 o) ∧ W.cell? ⟨p.block, p.off + 1, none⟩ = some (.int .i64 m) ∧ W.cell? ⟨p.block, p.off + 2, none⟩ = some (.slice B k c) ∧
    Calls Try.prog 35 #[.agg #[.int .i64 q.key, .int .i64 q.val, .int .i64 q.time, .int .i64 q.acc], .agg #[.int .i64 o, .int .i64 m, .slice B k c]] W fun e w' => e = endV (valF q x) ∧ Below W.heap.size W w' := by
  have hi := (List.getElem?_eq_some_iff.1 hx).1
  obtain ⟨ad, x', B, c, hA, hx', e0, e1, e2, e3, _⟩ := kid_cells h i hi
  rw [hx] at hx'
  obtain rfl := Option.some.inj hx'
  refine ⟨ad, x.op, x.n, B, x.kids.length, c, hA, ?_⟩
  rintro p rfl W hW
  exact ⟨pw_cell_below hW e0, pw_cell_below hW e1, pw_cell_below hW e2, hv _ W (e3.below hW)⟩
theorem cell_of {w : World} {b : Nat} {cs : Array Value} {t : TypeId} {fr : Nat × Nat} (h : w.heap[b]? = some (.cells cs t fr)) (j : Nat) : w.cell? ⟨b, j, none⟩ = cs[j]? := by
  simp [World.cell?, h]
/-- The two boxes: what is asked, the expression. -/
structure Bx (w W : World) (q : Ask) (e f : Int) (A : Option Addr) (k m : Nat) : Prop where
  below : Below w.heap.size w W
  c : W.cell? ⟨w.heap.size, 0, none⟩ = some (.int .i64 q.key) ∧ W.cell? ⟨w.heap.size, 1, none⟩ = some (.int .i64 q.val) ∧ W.cell? ⟨w.heap.size, 2, none⟩ = some (.int .i64 q.time) ∧ W.cell? ⟨w.heap.size, 3, none⟩ = some (.int .i64 q.acc)
  e : W.cell? ⟨w.heap.size + 1, 0, none⟩ = some (.int .i64 e) ∧ W.cell? ⟨w.heap.size + 1, 1, none⟩ = some (.int .i64 f) ∧ W.cell? ⟨w.heap.size + 1, 2, none⟩ = some (.slice A k m)
theorem Bx.step {w W W' : World} {q : Ask} {e f : Int} {A : Option Addr} {k m : Nat} (h : Bx w W q e f A k m) (hb : Below W.drew.heap.size W.drew W') : Bx w W' q e f A k m :=
  have t : ∀ {a : Addr} {v : Value}, W.cell? a = some v → W'.cell? a = some v := fun {a v} hc => pw_cell_below hb (show W.drew.cell? a = some v from hc)
  ⟨below_then (below_drew h.below) h.below.size hb, ⟨t h.c.1, t h.c.2.1, t h.c.2.2.1, t h.c.2.2.2⟩, ⟨t h.e.1, t h.e.2.1, t h.e.2.2⟩⟩
theorem boxes (w : World) (q : Ask) (e f : Int) (A : Option Addr) (k m : Nat) : ∃ W, W = (w.alloc (.cells #[.int .i64 q.key, .int .i64 q.val, .int .i64 q.time, .int .i64 q.acc] 86)).alloc (.cells #[.int .i64 e, .int .i64 f, .slice A k m] 31) ∧ Bx w W q e f A k m := by
  refine ⟨_, rfl, below_alloc (below_alloc (Below.refl _ _) _) _, ?_, ?_⟩
  · have h1 : ((w.alloc (.cells #[.int .i64 q.key, .int .i64 q.val, .int .i64 q.time, .int .i64 q.acc] 86)).alloc (.cells #[.int .i64 e, .int .i64 f, .slice A k m] 31)).heap[w.heap.size]? = some (.cells #[.int .i64 q.key, .int .i64 q.val, .int .i64 q.time, .int .i64 q.acc] 86 (0, 0)) :=
      (heap_alloc_old _ _ (by simp)).trans (Go.MapKept.heap_alloc w _).1
    exact ⟨(blk_cell h1 0).trans rfl, (blk_cell h1 1).trans rfl, (blk_cell h1 2).trans rfl, (blk_cell h1 3).trans rfl⟩
  · have h2 : ((w.alloc (.cells #[.int .i64 q.key, .int .i64 q.val, .int .i64 q.time, .int .i64 q.acc] 86)).alloc (.cells #[.int .i64 e, .int .i64 f, .slice A k m] 31)).heap[w.heap.size + 1]? = some (.cells #[.int .i64 e, .int .i64 f, .slice A k m] 31 (0, 0)) := by
      have h := (Go.MapKept.heap_alloc (w.alloc (.cells #[.int .i64 q.key, .int .i64 q.val, .int .i64 q.time, .int .i64 q.acc] 86)) (.cells #[.int .i64 e, .int .i64 f, .slice A k m] 31)).1
      simpa using h
    exact ⟨(blk_cell h2 0).trans rfl, (blk_cell h2 1).trans rfl, (blk_cell h2 2).trans rfl⟩
theorem add0 (ad : Addr) : ad.add (0 * 3) = ad := by simp [Addr.add]
set_option maxHeartbeats 4000000 in
theorem val_neg (q : Ask) (n : Int) (a : Ex) (ha : ValP q a) (v : Value) (w : World) (hv : ExV w (.mk 14 n [a]) v) : Calls Try.prog 35 #[askV q, v] w fun e w' => e = endV ((valF q a).map fun x => wrap64 (-x)) ∧ Below w.heap.size w w' := by
  obtain ⟨A, c, rfl, w1, w2, hlen, hK⟩ := hv.out
  simp only [Ex.op, Ex.n, Ex.kids, List.length_cons, List.length_nil, Nat.zero_add] at w1 w2 hK ⊢
  obtain ⟨ad, o, m, B, k, c1, rfl, hk⟩ := kid_val hK 0 a rfl ha
  unfold askV
  obtain ⟨W, hW, hX⟩ := boxes w q 14 n (some ad) 1 c
  obtain ⟨c0, c1', c2, c3⟩ := hX.c
  obtain ⟨e0, e1, e2⟩ := hX.e
  have HW := Lib.hid hW; have HX := Lib.hid hX
  obtain ⟨k0, k1, k2, hcd⟩ := hk _ (add0 ad) W.drew (below_drew hX.below)
  clear hk hv hK ha hW hX
  cases hva : valF q a with
  | none =>
    simp only [hva, endV] at hcd ⊢
    go_enter Try.func35, Try.ntmps35
    go_wp2_with fail
    rw [← HW.out]
    go_region_dies
    all_goals
      go_wp2_with ((with_reducible refine hcd.mono ?_); rintro e w4 ⟨rfl, hB4⟩)
      exact ⟨rfl, rfl, (HX.out.step hB4).below⟩
  | some x =>
    simp only [hva, endV, Option.map_some] at hcd ⊢
    go_enter Try.func35, Try.ntmps35
    go_wp2_with fail
    rw [← HW.out]
    go_region_with ((with_reducible refine hcd.mono ?_); rintro e w4 ⟨rfl, hB4⟩; have HB4 := Lib.hid hB4; clear hB4)
    all_goals
      go_wp2
      go_ret
      refine ⟨?_, (HX.out.step HB4.out).below⟩
      simp [Act.put, wrap64, IntKind.wrap_i64]
end Go.Proofs.Ytanhibhcmfmeeaa.Ex
