import Derived.Test.YtdfpcldoakbehaaProg
import Derived.Test.YtdfpcldoakbehaaWWords
import Derived.Test.YtdfpcldoakbehaaWMore
import Derived.Test.YtdfpcldoakbehaaCut
import Derived.Lib.Hide
import Derived.KernelRfl
/- Cells as values: a number, an epoch, and a slice of bytes that is known. -/
namespace Go.Proofs.Ytdfpcldoakbehaa.Quor
open Go.RowKit Go.Proofs.YtdfpcldoakbehaaW.PrintWords Go.Proofs.Ytdfpcldoakbehaa.Cut
abbrev C3 := Int × Int × List Int
abbrev KC : Kd C3 := Kd.pair (Kd.int .i64) (Kd.pair (Kd.int .i64) (Kd.slice 5 (Kd.int .u8)))
/-- A cell as it lies in memory: where its bytes are. -/
structure C4 where
  at_ : Int
  ep : Int
  by_ : List Int
  A : Option Addr
  c : Nat
instance : Inhabited C4 := ⟨⟨0, 0, [], none, 0⟩⟩
def C4.c3 (z : C4) : C3 := (z.at_, z.ep, z.by_)
def enc4 (z : C4) : List Value := [.int .i64 z.at_, .int .i64 z.ep, .slice z.A z.by_.length z.c]
theorem enc4_len (z : C4) : (enc4 z).length = 3 := rfl
theorem enc4_one (z : C4) : ∀ v ∈ enc4 z, v.oneCell' = true := by
  intro v hv
  simp [enc4] at hv
  rcases hv with rfl | rfl | rfl <;> rfl
def K4 : Kd C4 where
  sz := 3
  E := []
  K := fun _ z cs => cs = enc4 z
  M := fun _ _ _ z cs => cs = enc4 z
  K_len := fun h => by rw [h]; rfl
  K_one := fun h => by rw [h]; exact enc4_one _
  K_below := fun _ h => h
  K_of_M := fun h => h
  M_mono := fun _ h => h
  M_bound := fun h => h
  M_move := fun _ h => h
  M_lower := fun _ h => h
/-- Its bytes can be read. -/
def RdB (w : World) (z : C4) : Prop := z.by_.length ≤ z.c ∧ (Kd.int .u8).C w z.A z.by_.length z.by_
theorem RdB.below {w w1 : World} {z : C4} (h : RdB w z) (hb : Below w.heap.size w w1) : RdB w1 z := ⟨h.1, Kd.C_below h.2 hb⟩
theorem at_K4 {w : World} {A : Option Addr} {n : Nat} {l : List C4} (h : K4.C w A n l) (i : Nat) (hi : i < n) : ∃ ad z, A = some ad ∧ l[i]? = some z ∧ w.cell? (ad.add (i * 3)) = some (.int .i64 z.at_) ∧ w.cell? ⟨(ad.add (i * 3)).block, (ad.add (i * 3)).off + 1, none⟩ = some (.int .i64 z.ep) ∧ w.cell? ⟨(ad.add (i * 3)).block, (ad.add (i * 3)).off + 2, none⟩ = some (.slice z.A z.by_.length z.c) := by
  obtain ⟨hl, _, h⟩ := h
  obtain ⟨ad, hA, hc⟩ := h (by omega)
  have hil : i < l.length := by omega
  obtain ⟨cs, _, hk, hat⟩ := hc i (l[i]) (List.getElem?_eq_getElem hil)
  have e1 : K4.sz = 3 := rfl
  rw [e1] at hat
  obtain rfl : cs = enc4 l[i] := hk
  refine ⟨ad, l[i], hA, List.getElem?_eq_getElem hil, hat 0 _ rfl, ?_, ?_⟩
  · rw [← add_field _ _ 1 (by omega)]; exact hat 1 _ rfl
  · rw [← add_field _ _ 2 (by omega)]; exact hat 2 _ rfl
/-- A cell that is read, as a value. -/
theorem at_KC {w : World} {A : Option Addr} {n : Nat} {l : List C3} (h : KC.C w A n l) (i : Nat) (hi : i < n) : ∃ ad z, A = some ad ∧ l[i]? = some z.c3 ∧ RdB w z ∧ w.cell? (ad.add (i * 3)) = some (.int .i64 z.at_) ∧ w.cell? ⟨(ad.add (i * 3)).block, (ad.add (i * 3)).off + 1, none⟩ = some (.int .i64 z.ep) ∧ w.cell? ⟨(ad.add (i * 3)).block, (ad.add (i * 3)).off + 2, none⟩ = some (.slice z.A z.by_.length z.c) := by
  obtain ⟨hl, _, h⟩ := h
  obtain ⟨ad, hA, hc⟩ := h (by omega)
  have hil : i < l.length := by omega
  obtain ⟨cs, _, hk, hat⟩ := hc i (l[i]) (List.getElem?_eq_getElem hil)
  have e1 : KC.sz = 3 := rfl
  rw [e1] at hat
  obtain ⟨_, _, rfl, rfl, ⟨_, _, rfl, rfl, ⟨B, c, rfl, hle, hC⟩⟩⟩ := hk
  refine ⟨ad, ⟨l[i].1, l[i].2.1, l[i].2.2, B, c⟩, hA, List.getElem?_eq_getElem hil, ⟨hle, hC⟩, hat 0 _ rfl, ?_, ?_⟩
  · rw [← add_field _ _ 1 (by omega)]; exact hat 1 _ rfl
  · rw [← add_field _ _ 2 (by omega)]; exact hat 2 _ rfl
/-- A row of rows of cells. -/
theorem at_KR {w : World} {A : Option Addr} {n : Nat} {l : List (List C3)} (h : (Kd.slice 34 KC).C w A n l) (i : Nat) (hi : i < n) : ∃ ad x B c, A = some ad ∧ l[i]? = some x ∧ w.cell? (ad.add i) = some (.slice B x.length c) ∧ x.length ≤ c ∧ KC.C w B x.length x := by
  obtain ⟨hl, _, h⟩ := h
  obtain ⟨ad, hA, hc⟩ := h (by omega)
  have hil : i < l.length := by omega
  obtain ⟨cs, _, hk, hat⟩ := hc i (l[i]) (List.getElem?_eq_getElem hil)
  obtain ⟨B, c, rfl, hle, hC⟩ := hk
  have h0 := hat 0 _ rfl
  have e1 : (Kd.slice 34 KC).sz = 1 := rfl
  rw [e1, Nat.mul_one, Nat.add_zero] at h0
  exact ⟨ad, l[i], B, c, hA, List.getElem?_eq_getElem hil, h0, hle, hC⟩
theorem infoCell : (Try.prog.info? 34).map (fun i => (i.zero, i.size, i.bytes)) = some (some (.agg #[.int .i64 0, .int .i64 0, .slice none 0 0]), 3, 40) := by kernel_rfl
theorem infoB : (Try.prog.info? 5).map (fun i => (i.zero, i.size, i.bytes)) = some (some (.int .u8 0), 1, 1) := by kernel_rfl
end Go.Proofs.Ytdfpcldoakbehaa.Quor
