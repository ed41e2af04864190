import Derived.Test.YtmphlgihmggoaaaDiskC
/- 'shown' of chapter 6's statements, and what their walks share. -/
namespace Go.Proofs.Ytmphlgihmggoaaa.DiskM
open Go.RowKit Go.Proofs.YtmphlgihmggoaaaW.PrintWords Go.Proofs.YtmphlgihmggoaaaW.PrintLast Go.Proofs.YtmphlgihmggoaaaW.PrintMore Go.Proofs.Ytmphlgihmggoaaa.Row Go.Proofs.Ytmphlgihmggoaaa.Cut

theorem lit_C (w : World) (k : IntKind) (e : TypeId) (xs : List Int) (h : xs.length ≤ 9223372036854775807) : (Kd.int k).C (w.alloc (.cells (nums k xs).toArray e)) (some ⟨w.heap.size, 0, none⟩) xs.length xs := by
  refine ⟨rfl, h, fun _ => ⟨_, rfl, fun j p hj => ⟨[.int k p], rfl, rfl, fun i u hu => ?_⟩⟩⟩
  obtain ⟨rfl, rfl⟩ : i = 0 ∧ u = .int k p := by
    cases i with
    | zero => exact ⟨rfl, by simpa using hu.symm⟩
    | succ i => simp at hu
  have e1 : (Kd.int k).sz = 1 := rfl
  rw [e1, Nat.mul_one, Nat.add_zero, add_plain, blk_cell (heap_alloc_new w _)]
  simp [nums, hj]

theorem row_str {w : World} {base n c : Nat} {A : Option Addr} {bs : List Int} (h : Row w base 5 (.slice A n c) (nums .u8 bs)) : (convert 22 9 (.slice A n c)).run Try.prog w = .ok (.string (strOfNums bs)) w := by
  obtain ⟨A', c', hv, _, hC⟩ := h.reads
  injection hv with hA hn hc
  subst hA; subst hn; subst hc
  exact Kd.C_string Try.underlying22 Try.underlying5 Try.underlying9 hC
set_option maxHeartbeats 4000000 in
theorem shown_calls (w : World) : Calls Try.prog 9 #[] w fun e w' => e = .returned (.bool true) ∧ Below w.heap.size w w' := by
  go_enter Try.func9, Try.ntmps9
  go_wp2_with fail
  refine (new_ok (w0 := w) 10 (Below.refl _ _) (by omega) (by omega)).mono ?_
  rintro e w1 ⟨rfl, D1, B1⟩
  generalize w.heap.size = g at D1
  go_wp2_with fail
  have D1a := D1.step (w' := w1.alloc (.cells (nums .u8 [1, 2]).toArray 5)) ((Below.refl _ _).alloc (Nat.le_refl _) _)
  refine (append_ok D1a (some ⟨w1.heap.size, 0, none⟩) 2 [1, 2] (lit_C _ _ _ _ (by decide)) (by decide) (by decide)).mono ?_
  rintro e w2 ⟨rfl, v2, D2, _⟩
  clear D1 D1a
  have HD2 := Lib.hid D2; clear D2
  go_wp2_with fail
  refine (sync_calls HD2.out).mono ?_
  rintro e w3 ⟨rfl, D3, _⟩
  have HD3 := Lib.hid D3; clear D3
  go_wp2_with fail
  have D3a := HD3.out.step (w' := w3.alloc (.cells (nums .u8 [3, 4]).toArray 5)) ((Below.refl _ _).alloc (Nat.le_refl _) _)
  refine (append_ok D3a (some ⟨w3.heap.size, 0, none⟩) 2 [3, 4] (lit_C _ _ _ _ (by decide)) (by decide) (by decide)).mono ?_
  rintro e w4 ⟨rfl, v4, D4, _⟩
  clear D3a
  have HD4 := Lib.hid D4; clear D4
  go_wp2_with fail
  refine (crash_calls HD4.out 1 0).mono ?_
  rintro e w5 ⟨rfl, v5, D5, _⟩
  rw [show crashM ([] ++ [1, 2] ++ [3, 4]) ([] ++ [1, 2] : List Int).length 1 0 = [1, 2, 2] from by decide +kernel] at D5
  have HD5 := Lib.hid D5; clear D5
  go_wp2_with fail
  refine (bytes_calls HD5.out).mono ?_
  rintro e w6 ⟨gb, rfl, R6, B6⟩
  have D6 := HD5.out.step B6
  have hcv : (convert 22 9 (.slice (some ⟨gb, 0, none⟩) 3 3)).run Try.prog w6 = .ok (.string ⟨#[1, 2, 2]⟩) w6 := row_str R6
  have HD6 := Lib.hid D6
  clear D6 R6 B1
  go_wp2_with fail
  refine (safe_calls HD6.out).mono ?_
  rintro e w7 ⟨rfl, rfl⟩
  go_wp2_with fail
  go_ret
  exact ⟨rfl, HD6.out.below⟩
end Go.Proofs.Ytmphlgihmggoaaa.DiskM
