import Derived.Test.YtanhibhcmfmeeaaAgSum
import Derived.Test.YtanhibhcmfmeeaaAgWin
import Derived.Test.YtanhibhcmfmeeaaAgSes
import Derived.Test.YtanhibhcmfmeeaaSeLs
import Derived.Test.YtanhibhcmfmeeaaKvLs
/- A vertex's store over whatever table: List. -/
namespace Go.Proofs.Ytanhibhcmfmeeaa.Ag
open Go.RowKit Go.Proofs.YtanhibhcmfmeeaaW.PrintWords Go.Proofs.YtanhibhcmfmeeaaW.PrintMore Go.Proofs.Ytanhibhcmfmeeaa.Cut Go.Proofs.Ytanhibhcmfmeeaa.Fr Go.Proofs.Ytanhibhcmfmeeaa.SlK Go.Proofs.Ytanhibhcmfmeeaa.Ex
open Go.Proofs.Ytanhibhcmfmeeaa.Win (St P2 startF)
open Go.Proofs.Ytanhibhcmfmeeaa.Se (L4 S4)
theorem meth_list_kv (d s : Nat) (w : World) : (method (d + 1) 71 (.pointer (some ⟨s, 0, none⟩)) "List").run Try.prog w = .ok (114, .pointer (some ⟨s, 0, none⟩)) w := by kernel_rfl
theorem meth_list_win (d s : Nat) (w : World) : (method (d + 1) 75 (.pointer (some ⟨s, 0, none⟩)) "List").run Try.prog w = .ok (118, .pointer (some ⟨s, 0, none⟩)) w := by kernel_rfl
theorem meth_list_se (d s : Nat) (w : World) : (method (d + 1) 76 (.pointer (some ⟨s, 0, none⟩)) "List").run Try.prog w = .ok (121, .pointer (some ⟨s, 0, none⟩)) w := by kernel_rfl
def ListR (w : World) (l : List T5) (e : Ending) (w' : World) : Prop := ∃ u, e = .returned u ∧ Row5 w' w.heap.size u l ∧ Below w.heap.size w w'
set_option maxRecDepth 100000 in
set_option maxHeartbeats 4000000 in
theorem list_kv {w0 w : World} {a s : Nat} {n : Int} {x : Ex} {l : Kv.L2} {v : Value} (h : AgK w0 w a s n x l v) :
    Calls Try.prog 15 #[.pointer (some ⟨a, 0, none⟩)] w (ListR w (l.map Kv.valT)) := by
  obtain ⟨kA, kc, c0, c2, c3, c4, c5, c6, _⟩ := h.vx.cells
  have hl := Kv.list_calls h.tb
  have hm := fun d w => meth_list_kv d s w
  clear h c0 c2 c3 c4 c5
  go_enter Try.func15, Try.ntmps15
  go_upto_region 3 with fail
  go_wp2_with fail
  refine hl.mono ?_
  rintro e w1 ⟨u, rfl, hR, hB⟩
  clear hl
  go_wp2_with fail
  go_ret
  exact ⟨u, rfl, hR, hB⟩
set_option maxRecDepth 100000 in
set_option maxHeartbeats 4000000 in
theorem list_win {w0 w : World} {a s b : Nat} {n : Int} {x : Ex} {m : St} (h : AgW w0 w a s b n x m) :
    Calls Try.prog 15 #[.pointer (some ⟨a, 0, none⟩)] w (ListR w (Win.listT n m)) := by
  obtain ⟨kA, kc, c0, c2, c3, c4, c5, c6, _⟩ := h.vx.cells
  have hl := Win.list_calls h.tb
  have hm := fun d w => meth_list_win d s w
  clear h c0 c2 c3 c4 c5
  go_enter Try.func15, Try.ntmps15
  go_upto_region 3 with fail
  go_wp2_with fail
  refine hl.mono ?_
  rintro e w1 ⟨u, rfl, hR, hB⟩
  clear hl
  go_wp2_with fail
  go_ret
  exact ⟨u, rfl, hR, hB⟩
set_option maxRecDepth 100000 in
set_option maxHeartbeats 4000000 in
theorem list_se {w0 w : World} {a s : Nat} {n : Int} {x : Ex} {l : L4} {v : Value} (h : AgS w0 w a s n x l v) :
    Calls Try.prog 15 #[.pointer (some ⟨a, 0, none⟩)] w (ListR w (l.map Se.chgT)) := by
  obtain ⟨kA, kc, c0, c2, c3, c4, c5, c6, _⟩ := h.vx.cells
  have hl := Se.list_calls h.tb
  have hm := fun d w => meth_list_se d s w
  clear h c0 c2 c3 c4 c5
  go_enter Try.func15, Try.ntmps15
  go_upto_region 3 with fail
  go_wp2_with fail
  refine hl.mono ?_
  rintro e w1 ⟨u, rfl, hR, hB⟩
  clear hl
  go_wp2_with fail
  go_ret
  exact ⟨u, rfl, hR, hB⟩
end Go.Proofs.Ytanhibhcmfmeeaa.Ag
