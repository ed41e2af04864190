import Derived.Test.YtanhibhcmfmeeaaKvAll
import Derived.Test.YtanhibhcmfmeeaaExEval
import Derived.Deep.RegionHeld3
/- A vertex's store in memory; Apply, whatever the table is. -/
namespace Go.Proofs.Ytanhibhcmfmeeaa.Ag
open Go.RowKit Go.Proofs.YtanhibhcmfmeeaaW.PrintWords Go.Proofs.YtanhibhcmfmeeaaW.PrintMore Go.Proofs.Ytanhibhcmfmeeaa.Cut Go.Proofs.Ytanhibhcmfmeeaa.Fr Go.Proofs.Ytanhibhcmfmeeaa.SlK Go.Proofs.Ytanhibhcmfmeeaa.Ex
abbrev T5 := Int × Int × Int × Int × Bool
def encC (x : T5) : List Value := [.int .i64 x.1, .int .i64 x.2.1, .int .i64 x.2.2.1, .int .i64 x.2.2.2.1, .bool x.2.2.2.2]
abbrev K5 : Kd T5 := Kd.pair (Kd.int .i64) (Kd.pair (Kd.int .i64) (Kd.pair (Kd.int .i64) (Kd.pair (Kd.int .i64) Kd.bool)))
theorem K5_M (w : World) (base : Nat) (ok : Nat → Prop) (x : T5) : K5.M w base ok x (encC x) := ⟨[.int .i64 x.1], _, rfl, rfl, ⟨[.int .i64 x.2.1], _, rfl, rfl, ⟨[.int .i64 x.2.2.1], _, rfl, rfl, ⟨[.int .i64 x.2.2.2.1], _, rfl, rfl, rfl⟩⟩⟩⟩
/-- Changes: a row that was made behind a world. -/
abbrev Row5 (w : World) (base : Nat) (v : Value) (l : List T5) : Prop := K5.R 50 w base (fun _ => True) v l
/-- A vertex with an interface of its table lies at block a; its expression lay in w0. -/
structure AgV (w0 w : World) (a : Nat) (kind n : Int) (x : Ex) (ifc : Value) : Prop where
  low : Below w0.heap.size w0 w
  base : w0.heap.size ≤ a
  row : ∃ fA fn fc kA kc, w.heap[a]? = some (.cells #[.int .i64 kind, .slice fA fn fc, .int .i64 x.op, .int .i64 x.n, .slice kA x.kids.length kc, .int .i64 n, ifc] 64 (0, 0)) ∧ ExV w0 x (.agg #[.int .i64 x.op, .int .i64 x.n, .slice kA x.kids.length kc])
theorem AgV.lt {w0 w : World} {a : Nat} {kind n : Int} {x : Ex} {ifc : Value} (h : AgV w0 w a kind n x ifc) : a < w.heap.size := by
  obtain ⟨_, _, _, _, _, hr, _⟩ := h.row
  exact (Array.getElem?_eq_some_iff.1 hr).1
theorem AgV.mv {w0 w w' : World} {a : Nat} {kind n : Int} {x : Ex} {ifc : Value} (h : AgV w0 w a kind n x ifc) {G G' : Nat → Prop} (hm : Mv w w' G G') (hG : ∀ k, G k → w0.heap.size ≤ k) (ha : ¬ G a) : AgV w0 w' a kind n x ifc := by
  obtain ⟨fA, fn, fc, kA, kc, hr, hx⟩ := h.row
  exact ⟨hm.below h.low h.low.size hG, h.base, fA, fn, fc, kA, kc, (hm.keep a h.lt ha).trans hr, hx⟩
theorem AgV.below {w0 w w' : World} {a : Nat} {kind n : Int} {x : Ex} {ifc : Value} (h : AgV w0 w a kind n x ifc) (hb : Below w.heap.size w w') : AgV w0 w' a kind n x ifc :=
  h.mv (Mv.of_below (fun _ => False) hb) (fun _ e => e.elim) (fun e => e)
def mayT (time : Int) : Bool := decide (0 ≤ time ∧ time ≤ 1099511627776)
set_option maxHeartbeats 1000000 in
theorem mayT_calls (time : Int) (w : World) : Calls Try.prog 22 #[.int .i64 time] w fun e w' => e = .returned (.bool (mayT time)) ∧ w' = w := by
  unfold mayT
  by_cases h1 : 0 ≤ time
  · by_cases h2 : time ≤ 1099511627776
    · rw [decide_eq_true (And.intro h1 h2)]
      go_enter Try.func22, Try.ntmps22
      go_wp2
      go_ret
      exact ⟨rfl, rfl⟩
    · rw [decide_eq_false (fun e => h2 e.2)]
      go_enter Try.func22, Try.ntmps22
      go_wp2
      go_ret
      exact ⟨rfl, rfl⟩
  · rw [decide_eq_false (fun e => h1 e.1)]
    go_enter Try.func22, Try.ntmps22
    go_wp2
    go_ret
    exact ⟨rfl, rfl⟩
abbrev zrec : Obj := .cells #[.int .i64 0, .int .i64 0, .int .i64 0] 36
def recV (key val time : Int) : Value := .agg #[.int .i64 key, .int .i64 val, .int .i64 time]
set_option maxHeartbeats 4000000 in
/-- A nil store. -/
theorem apply_nil (key val time : Int) (w : World) : Calls Try.prog 12 #[.pointer none, recV key val time] w fun e w' => e = .returned (.tuple #[recV 0 0 0, .slice none 0 0, .int .i64 3]) ∧ Below w.heap.size w w' := by
  unfold recV
  have hrow : ((w.alloc (.cells #[.int .i64 key, .int .i64 val, .int .i64 time] 36)).alloc zrec).heap[w.heap.size + 1]? = some zrec := by
    simpa using (Go.MapKept.heap_alloc (w.alloc (.cells #[.int .i64 key, .int .i64 val, .int .i64 time] 36)) zrec).1
  go_enter Try.func12, Try.ntmps12
  go_wp2
  refine bodyPost_ret (results_ctt rfl _ _ (w.heap.size + 1) 36 #[.int .i64 0, .int .i64 0, .int .i64 0] (0, 0) _ rfl ?hp Try.underlying36 rfl (by kernel_rfl)) rfl ?_
  case hp =>
    repeat (with_reducible first | exact hrow | refine blk_drewN ?_ _ | refine blk_drew ?_ | refine blk_put (cs := #[.int .i64 0, .int .i64 0, .int .i64 0]) ?_ _ _ rfl)
  · refine ⟨rfl, ?_⟩
    repeat (with_reducible first | exact Below.refl _ _ | refine Kv.below_set ?_ (by simp) _ _ | refine pw_below_drewN ?_ _ | refine below_alloc ?_ _)
end Go.Proofs.Ytanhibhcmfmeeaa.Ag
