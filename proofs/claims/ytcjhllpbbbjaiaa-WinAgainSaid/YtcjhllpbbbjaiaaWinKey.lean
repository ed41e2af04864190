import Derived.Test.YtcjhllpbbbjaiaaProg
import Derived.Maps.RangeWalk
import Derived.Maps.OwnSet
import Derived.Maps.Views
import Derived.DeepKeys4
import Derived.ChangeKeysEq
import Derived.KernelRfl
/- A place as a key of a map: two numbers of 64 bits. -/
namespace Go.Proofs.Ytcjhllpbbbjaiaa.Win
open Go.Maps (Keyed)
def mkP (a b : Int) : Value := .agg #[.int .i64 a, .int .i64 b]
def klP (a b : Int) : Lit := .string (keyBytes [.int .i64 a, .int .i64 b])
abbrev W64 (a : Int) : Prop := (Lit.int .i64 a).wf = true
theorem laidOut : laidOutB Try.prog = true := by kernel_rfl
theorem rowP : (54 : TypeId) < Try.prog.types.size := of_decide_eq_true (by kernel_rfl)
theorem wideP : (match Try.prog.underlying 54 with | some (.array _ _) | some (.struct _) => true | _ => false) = true := by rw [Try.underlying54]
set_option maxRecDepth 100000 in
theorem keyedP : Keyed Try.prog 54 := .of_law (deep_law_laid laidOut (m := 2) (by omega) rowP (by kernel_rfl) wideP)
theorem cellsP : Try.prog.cellsOf 54 = 2 := by kernel_rfl
theorem cells64 : Try.prog.cellsOf 2 = 1 := by kernel_rfl
theorem keyTP : Try.prog.keyType 54 = true := by kernel_rfl
theorem sizeP : ∃ m, Try.prog.types.size + 1 = m + 2 := ⟨Try.prog.types.size - 1, by have h : 1 ≤ Try.prog.types.size := of_decide_eq_true (by kernel_rfl); omega⟩
theorem keyOf_mk {a b : Int} (ha : W64 a) (hb : W64 b) : keyOf Try.prog 54 (mkP a b) = some (klP a b) := by
  obtain ⟨m, hm⟩ := sizeP
  have hf : (mkP a b).formed Try.prog 54 = true := by simp [mkP, Value.formed, Try.underlying54, cellsP]
  unfold keyOf
  rw [Try.underlying54]
  simp only [keyTP, hf, Bool.and_self, if_true, hm]
  simp [mkP, Value.cells, Program.keyLits, Try.underlying54, Try.underlying2, cellsP, cells64, ha, hb, klP]
theorem lit1 {m : Nat} {x : Value} {L : List Lit} (h : Try.prog.keyLits (m + 1) 2 [x] = some L) : ∃ a, x = .int .i64 a ∧ L = [.int .i64 a] ∧ W64 a := by
  obtain ⟨n, e, rfl⟩ := keyLits_int' Try.underlying2 h
  obtain rfl : x = .int .i64 n := by simpa using e
  have hw := keyLits_wf h (.int .i64 n) (by simp)
  exact ⟨n, rfl, rfl, hw⟩
set_option maxRecDepth 100000 in
theorem keyOf_inv {v : Value} {l : Lit} (h : keyOf Try.prog 54 v = some l) : ∃ a b, v = mkP a b ∧ l = klP a b ∧ W64 a ∧ W64 b := by
  obtain ⟨m, hm⟩ := sizeP
  obtain ⟨xs, L, rfl, hL, rfl⟩ := keyOf_top wideP h
  clear h
  rw [hm] at hL
  unfold Program.keyLits at hL
  rw [Try.underlying54] at hL
  simp only [cellsP] at hL
  obtain ⟨l3⟩ := xs
  match l3, hL with
  | [x, y], hL =>
    simp [cells64] at hL
    cases h1 : Try.prog.keyLits (m + 1) 2 [x] with
    | none => rw [h1] at hL; cases hL
    | some a1 =>
      cases h2 : Try.prog.keyLits (m + 1) 2 [y] with
      | none => rw [h1, h2] at hL; cases hL
      | some a2 =>
        rw [h1, h2] at hL
        obtain ⟨a, rfl, rfl, wa⟩ := lit1 h1
        obtain ⟨b, rfl, rfl, wb⟩ := lit1 h2
        obtain rfl : [.int .i64 a, .int .i64 b] = L := by simpa using hL
        exact ⟨a, b, rfl, rfl, wa, wb⟩
end Go.Proofs.Ytcjhllpbbbjaiaa.Win
