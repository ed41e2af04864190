import Derived.Test.YtanhibhcmfmeeaaAgCh
/- The sum; the document's example. -/
namespace Go.Proofs.Ytanhibhcmfmeeaa.Ag
open Go.RowKit Go.Proofs.YtanhibhcmfmeeaaW.PrintWords Go.Proofs.YtanhibhcmfmeeaaW.PrintMore Go.Proofs.Ytanhibhcmfmeeaa.Cut Go.Proofs.Ytanhibhcmfmeeaa.Fr Go.Proofs.Ytanhibhcmfmeeaa.SlK Go.Proofs.Ytanhibhcmfmeeaa.Ex
def sumE : Ex := .mk 6 0 [.mk 5 0 [], .mk 3 0 []]
theorem sum_may : mayE sumE = true := by decide +kernel
theorem sum_eval (q : Go.Proofs.Ytanhibhcmfmeeaa.Ex.Ask) : evalF q sumE = (wrap64 (q.acc + q.val), 0) := by
  unfold evalF
  rw [sum_may]
  rfl
theorem leafR {W : World} {b : Nat} {cs : Array Value} {t : TypeId} {op n : Int} (h : W.heap[b]? = some (.cells cs t (0, 0))) (p : Nat) (h0 : cs[p]? = some (.int .i64 op)) (h1 : cs[p + 1]? = some (.int .i64 n)) (h2 : cs[p + 2]? = some (.slice none 0 0)) (w1 : W64 op) (w2 : W64 n) : KidR W (.mk op n []) ⟨b, p, none⟩ := by
  unfold KidR
  refine ⟨(blk_cell h p).trans h0, ?_, w1, w2, by simp, none, 0, ?_, by unfold KidsR; trivial⟩
  · rw [show (⟨b, p, none⟩ : Addr).add 1 = ⟨b, p + 1, none⟩ from rfl]; exact (blk_cell h _).trans h1
  · rw [show (⟨b, p, none⟩ : Addr).add 2 = ⟨b, p + 2, none⟩ from rfl]; exact (blk_cell h _).trans h2
theorem kids_cons {W : World} {x : Ex} {r : List Ex} {ad : Addr} (h : KidR W x ad) (hr : KidsR W r (some (ad.add 3))) : KidsR W (x :: r) (some ad) := by
  unfold KidsR
  exact ⟨ad, rfl, h, hr⟩
abbrev sumRow : Obj := .cells #[.int .i64 5, .int .i64 0, .slice none 0 0, .int .i64 3, .int .i64 0, .slice none 0 0] 31
theorem sumV {W : World} {b : Nat} (h2 : W.heap[b]? = some sumRow) : ExV W sumE (.agg #[.int .i64 6, .int .i64 0, .slice (some ⟨b, 0, none⟩) 2 2]) := by
  refine ⟨_, _, rfl, by decide, by decide, by decide, ?_⟩
  refine kids_cons (leafR h2 0 rfl rfl rfl (by decide) (by decide)) ?_
  rw [add_plain]
  refine kids_cons (leafR h2 3 rfl rfl rfl (by decide) (by decide)) ?_
  unfold KidsR
  trivial
def SumP (w : World) (e : Ending) (w' : World) : Prop := ∃ b : Nat, e = .returned (.agg #[.int .i64 6, .int .i64 0, .slice (some ⟨b, 0, none⟩) 2 2]) ∧ w'.heap[b]? = some sumRow ∧ w.heap.size ≤ b ∧ Below w.heap.size w w'
set_option maxHeartbeats 4000000 in
theorem sum_calls (w : World) : Calls Try.prog 19 #[] w (SumP w) := by
  go_enter Try.func19, Try.ntmps19
  go_wp2
  obtain ⟨W, hW⟩ : ∃ W, W = (w.alloc (.cells #[.int .i64 6, .int .i64 0, .slice (some ⟨w.heap.size + 1, 0, none⟩) 2 2] 31)).alloc (.cells #[.int .i64 5, .int .i64 0, .slice none 0 0, .int .i64 3, .int .i64 0, .slice none 0 0] 31) := ⟨_, rfl⟩
  rw [← hW]
  have h1 : W.heap[w.heap.size]? = some (.cells #[.int .i64 6, .int .i64 0, .slice (some ⟨w.heap.size + 1, 0, none⟩) 2 2] 31 (0, 0)) := by
    rw [hW, (Go.MapKept.heap_alloc _ _).2 _ (by simp), (Go.MapKept.heap_alloc w _).1]
  have h2 : W.heap[w.heap.size + 1]? = some (.cells #[.int .i64 5, .int .i64 0, .slice none 0 0, .int .i64 3, .int .i64 0, .slice none 0 0] 31 (0, 0)) := by
    rw [hW]
    simpa using (Go.MapKept.heap_alloc (w.alloc (.cells #[.int .i64 6, .int .i64 0, .slice (some ⟨w.heap.size + 1, 0, none⟩) 2 2] 31)) (.cells #[.int .i64 5, .int .i64 0, .slice none 0 0, .int .i64 3, .int .i64 0, .slice none 0 0] 31)).1
  have hB : Below w.heap.size w W := by rw [hW]; exact below_alloc (below_alloc (Below.refl _ _) _) _
  refine bodyPost_ret (results_cell_row rfl _ _ w.heap.size 31 #[.int .i64 6, .int .i64 0, .slice (some ⟨w.heap.size + 1, 0, none⟩) 2 2] (0, 0) _ rfl h1 Try.underlying31 rfl (by kernel_rfl)) rfl ?_
  exact ⟨w.heap.size + 1, rfl, h2, by omega, hB⟩
end Go.Proofs.Ytanhibhcmfmeeaa.Ag
