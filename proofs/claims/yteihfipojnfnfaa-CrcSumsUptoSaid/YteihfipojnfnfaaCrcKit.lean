import Derived.Test.YteihfipojnfnfaaLists
import Derived.Lib.SlBytesConst
/- Literals of bytes, as a call finds them. -/
namespace Go.Proofs.Yteihfipojnfnfaa.Crc
open Go.RowKit Go.Proofs.YteihfipojnfnfaaW.PrintWords
theorem lit_C (W : World) (e : TypeId) (xs : List Int) (fr : Nat × Nat) (h : xs.length ≤ 9223372036854775807) : (Kd.int .u8).C (W.alloc (.cells (nums .u8 xs).toArray e fr)) (some ⟨W.heap.size, 0, none⟩) xs.length xs := by
  refine kd_of_reads ⟨rfl, h, fun _ => ⟨_, rfl, fun j hj => ?_⟩⟩
  rw [add_plain, cell_of_row _ _ _ _ _ _ (heap_alloc_new W _)]
  simp [nums, List.getD_eq_getElem?_getD, List.getElem?_eq_getElem hj]
theorem conv_here {w : World} {A : Option Addr} {n c : Nat} {xs : List Int} (h : (Kd.int .u8).C w A n xs) {S : ByteArray} (hS : strOfNums xs = S) : (convert 22 9 (.slice A n c)).run Try.prog w = .ok (.string S) w := conv_drew h S hS 0
end Go.Proofs.Yteihfipojnfnfaa.Crc
