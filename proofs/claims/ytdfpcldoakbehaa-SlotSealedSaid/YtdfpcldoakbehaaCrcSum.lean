import Derived.Test.YtdfpcldoakbehaaCrcOnce
import Derived.Test.YtdfpcldoakbehaaCut
import Derived.BigQuiet
import Derived.Deep.QuietTactic
import Derived.Deep.DeepCutAuto
import Derived.Deep.RegionHeld3
import Derived.Laws.Tables
import Derived.Laws.BitsAllLaws
/- The walk of crc.Sum. -/
namespace Go.Proofs.Ytdfpcldoakbehaa.Crc
open Go.RowKit Go.Proofs.YtdfpcldoakbehaaW.PrintWords Go.Proofs.Ytdfpcldoakbehaa.Cut
/-- Are these bytes? -/
def bytesB (l : List Int) : Bool := l.all fun x => decide (0 ≤ x ∧ x ≤ 255)
theorem bytesB_iff {l : List Int} : bytesB l = true ↔ ∀ x ∈ l, 0 ≤ x ∧ x ≤ 255 := by
  unfold bytesB
  rw [List.all_eq_true]
  exact forall_congr' fun x => forall_congr' fun _ => decide_eq_true_iff
theorem at_byte {k : IntKind} {w : World} {A : Option Addr} {n : Nat} {l : List Int} (h : (Kd.int k).C w A n l) (i : Nat) (hi : i < n) : ∃ ad x, A = some ad ∧ l[i]? = some x ∧ x ∈ l ∧ w.cell? (ad.add i) = some (.int k x) := by
  obtain ⟨hl, _, h⟩ := h
  obtain ⟨ad, hA, hc⟩ := h (by omega)
  have hil : i < l.length := by omega
  obtain ⟨cs, _, hcs, hat⟩ := hc i (l[i]) (List.getElem?_eq_getElem hil)
  obtain rfl : cs = [.int k (l[i])] := hcs
  refine ⟨ad, l[i], hA, List.getElem?_eq_getElem hil, List.getElem_mem hil, ?_⟩
  have := hat 0 _ rfl
  have e1 : (Kd.int k).sz = 1 := rfl
  rwa [e1, Nat.mul_one, Nat.add_zero] at this
/-- The sum's state behind bytes. -/
def sumN (u x : Int) : Int := bits .xor .u32 (u / 256) (it8 8 (bits .xor .u8 (u % 256) x))
def sumS (l : List Int) : Int := l.foldl sumN 4294967295
def sumOf (l : List Int) : Int := bits .xor .u32 IntKind.u32.max (sumS l)
theorem sumS_snoc (l : List Int) (x : Int) : sumS (l ++ [x]) = sumN (sumS l) x := by unfold sumS; rw [List.foldl_append]; rfl
theorem take_snoc {l : List Int} {k : Nat} {x : Int} (h : l[k]? = some x) : l.take (k + 1) = l.take k ++ [x] := by
  obtain ⟨hk, rfl⟩ := List.getElem?_eq_some_iff.1 h
  exact List.take_succ_eq_append_getElem hk
theorem xor8_nat (u x : Int) (x0 : 0 ≤ x) (x1 : x ≤ 255) : ∃ m : Nat, m < 256 ∧ bits .xor .u8 (u % 256) x = (m : Int) :=
  ⟨_, Nat.xor_lt_two_pow (n := 8) (by omega) (by omega), u8_xor (u % 256) x (by omega) (by omega) x0 (by omega)⟩
theorem build_tb (w : World) : (zeroValue 125).run Try.prog w = .ok (.agg (tb 0 0 (tl 0))) w := by kernel_rfl
theorem Tb.new (w : World) : Tb (w.alloc (.cells (tb 0 0 (tl 0)) 125)) w.heap.size := .inl (heap_alloc_new w _)
set_option maxRecDepth 100000 in
set_option maxHeartbeats 1600000 in
theorem sum_calls (A : Option Addr) (n c : Nat) (l : List Int) (w : World) (hl : l.length = n) (hn : n ≤ 140737488351232) (hC : (Kd.int .u8).C w A n l) (hby : ∀ x ∈ l, 0 ≤ x ∧ x ≤ 255) :
    Calls Try.prog 54 #[.slice A n c] w fun e w' => e = .returned (.int .u32 (sumOf l)) ∧ Below w.heap.size w w' := by
  have HC := Lib.hid hC; have HBy := Lib.hid hby; have HL := Lib.hid hl
  have hbd := build_tb
  clear hC hby hl
  go_enter Try.func54, Try.ntmps54
  go_wp2
  have HT := Lib.hid (Tb.new w)
  have HB := Lib.hid ((Below.refl w.heap.size w).alloc (Nat.le_refl _) (.cells (tb 0 0 (tl 0)) 125))
  go_loopw [4, 11] (fun x i wr => ∃ k : Nat, k ≤ n ∧ i = .int .i64 k ∧ x = .int .u32 (sumS (l.take k)) ∧ Tb wr w.heap.size ∧ Below w.heap.size w wr) (fun _ i _ => n - (intOf i).toNat)
  case atStart => exact ⟨0, Nat.zero_le _, rfl, rfl, HT.out, HB.out⟩
  case round =>
    obtain ⟨k, hk, rfl, rfl, ht, hb⟩ := hrel
    have HT := Lib.hid ht; have HB := Lib.hid hb
    clear ht hb
    by_cases hlt : k < n
    · obtain ⟨ad, x, hA, hx, hxm, hcell⟩ := at_byte HC.out k hlt
      subst hA
      have hcw := pw_cell_below HB.out hcell
      obtain ⟨x0, x1⟩ := HBy.out x hxm
      have HX := Lib.hid hx
      clear hcell hx hxm
      obtain ⟨u, hu⟩ : ∃ u, sumS (l.take k) = u := ⟨_, rfl⟩
      rw [hu]
      have hki : ((k : Nat) : Int) < (n : Int) := by omega
      obtain ⟨m, hm, hmx⟩ := xor8_nat u x x0 x1
      have hs : sumS (l.take (k + 1)) = bits .xor .u32 (u / 256) (it8 8 m) := by rw [take_snoc HX.out, sumS_snoc, hu, sumN, hmx]
      have HS := Lib.hid hs; have HM := Lib.hid hmx
      clear hs hmx hu
      go_wp2_with fail
      rw [HM.out]
      refine (at_calls w.heap.size m _ hm HT.out).mono ?_
      rintro e w2 ⟨rfl, ht2, hg2⟩
      have HT2 := Lib.hid ht2
      have HB2 := Lib.hid (HB.out.grown hg2 HB.out.size (fun j hj => by injection hj with hj; omega))
      clear ht2 hg2
      go_wp2_with fail
      go_roundw
      case rel => exact ⟨k + 1, by omega, by go_num, by rw [HS.out], HT2.out, HB2.out⟩
      case measure => simp [intOf]; omega
    · obtain rfl : k = n := by omega
      go_wp2
      go_ret
      refine ⟨?_, HB.out⟩
      show Ending.returned (.int .u32 (bits .xor .u32 IntKind.u32.max (sumS (l.take k)))) = _
      rw [List.take_of_length_le (by have := HL.out; omega)]
      rfl
end Go.Proofs.Ytdfpcldoakbehaa.Crc
