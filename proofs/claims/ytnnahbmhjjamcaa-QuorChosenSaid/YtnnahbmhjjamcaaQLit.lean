import Derived.Test.YtnnahbmhjjamcaaQHoles
/- Rows that are written out, as they are read. -/
namespace Go.Proofs.Ytnnahbmhjjamcaa.Quor
open Go.RowKit Go.Maps Go.Proofs.YtnnahbmhjjamcaaW.PrintWords Go.Proofs.Ytnnahbmhjjamcaa.Cut
theorem C_blk {α : Type} {d : Kd α} {w : World} {g : Nat} {cs : Array Value} {t : TypeId} {fr : Nat × Nat} {xs : List α} (h : w.heap[g]? = some (.cells cs t fr)) (hn : xs.length ≤ 9223372036854775807)
    (hx : ∀ j p, xs[j]? = some p → ∃ c, c.length = d.sz ∧ d.K w p c ∧ ∀ i u, c[i]? = some u → cs[j * d.sz + i]? = some u) : d.C w (some ⟨g, 0, none⟩) xs.length xs := by
  refine ⟨rfl, hn, fun _ => ⟨⟨g, 0, none⟩, rfl, fun j p hj => ?_⟩⟩
  obtain ⟨c, h1, h2, h3⟩ := hx j p hj
  refine ⟨c, h1, h2, fun i u hi => ?_⟩
  have := h3 i u hi
  have e : (⟨g, 0, none⟩ : Addr).add (j * d.sz + i) = ⟨g, j * d.sz + i, none⟩ := by
    unfold Addr.add
    split
    · rename_i h0; rw [h0]
    · simp
  rw [← this, e]
  exact cell_of_row w g _ cs t fr h
theorem C_bytes1 {w : World} {g : Nat} {b : Int} {t : TypeId} {fr : Nat × Nat} (h : w.heap[g]? = some (.cells #[.int .u8 b] t fr)) : (Kd.int .u8).C w (some ⟨g, 0, none⟩) 1 [b] :=
  C_blk (d := Kd.int .u8) (xs := [b]) h (by simp) (fun j p hj => by
    cases j with
    | zero =>
      obtain rfl : b = p := by simpa using hj
      refine ⟨[.int .u8 b], rfl, rfl, fun i u hi => ?_⟩
      cases i with
      | zero => simpa using hi
      | succ i => simp at hi
    | succ j => simp at hj)
/-- One cell in a row of its own. -/
theorem C_cell1 {w : World} {g : Nat} {z : C4} {t : TypeId} (h : w.heap[g]? = some (.cells #[.int .i64 z.at_, .int .i64 z.ep, .slice z.A z.by_.length z.c] t (0, 0))) (hR : RdB w z) : KC.C w (some ⟨g, 0, none⟩) 1 [z.c3] :=
  C_blk (d := KC) (xs := [z.c3]) h (by simp) (fun j p hj => by
    cases j with
    | zero =>
      obtain rfl : z.c3 = p := by simpa using hj
      refine ⟨enc4 z, rfl, ⟨[.int .i64 z.at_], _, rfl, rfl, ⟨[.int .i64 z.ep], _, rfl, rfl, ⟨z.A, z.c, rfl, hR.1, hR.2⟩⟩⟩, fun i u hi => ?_⟩
      match i, hi with
      | 0, hi => simpa [enc4] using hi
      | 1, hi => simpa [enc4] using hi
      | 2, hi => simpa [enc4] using hi
      | i + 3, hi => simp [enc4] at hi
    | succ j => simp at hj)
theorem C_cell2 {w : World} {g : Nat} {y z : C4} {t : TypeId} (h : w.heap[g]? = some (.cells #[.int .i64 y.at_, .int .i64 y.ep, .slice y.A y.by_.length y.c, .int .i64 z.at_, .int .i64 z.ep, .slice z.A z.by_.length z.c] t (0, 0))) (hR : RdB w y) (hR2 : RdB w z) : KC.C w (some ⟨g, 0, none⟩) 2 [y.c3, z.c3] :=
  C_blk (d := KC) (xs := [y.c3, z.c3]) h (by simp) (fun j p hj => by
    match j, hj with
    | 0, hj =>
      obtain rfl : y.c3 = p := by simpa using hj
      refine ⟨enc4 y, rfl, ⟨[.int .i64 y.at_], _, rfl, rfl, ⟨[.int .i64 y.ep], _, rfl, rfl, ⟨y.A, y.c, rfl, hR.1, hR.2⟩⟩⟩, fun i u hi => ?_⟩
      match i, hi with
      | 0, hi => simpa [enc4] using hi
      | 1, hi => simpa [enc4] using hi
      | 2, hi => simpa [enc4] using hi
      | i + 3, hi => simp [enc4] at hi
    | 1, hj =>
      obtain rfl : z.c3 = p := by simpa using hj
      refine ⟨enc4 z, rfl, ⟨[.int .i64 z.at_], _, rfl, rfl, ⟨[.int .i64 z.ep], _, rfl, rfl, ⟨z.A, z.c, rfl, hR2.1, hR2.2⟩⟩⟩, fun i u hi => ?_⟩
      have e : 1 * KC.sz = 3 := rfl
      rw [e]
      match i, hi with
      | 0, hi => simpa [enc4] using hi
      | 1, hi => simpa [enc4] using hi
      | 2, hi => simpa [enc4] using hi
      | i + 3, hi => simp [enc4] at hi
    | j + 2, hj => simp at hj)
/-- A row of rows of cells. -/
theorem C_rows2 {w : World} {g : Nat} {A B : Option Addr} {a b : Nat} {x y : List C3} {t : TypeId} (h : w.heap[g]? = some (.cells #[.slice A x.length a, .slice B y.length b] t (0, 0))) (hx : KC.C w A x.length x) (hxa : x.length ≤ a) (hy : KC.C w B y.length y) (hyb : y.length ≤ b) : (Kd.slice 28 KC).C w (some ⟨g, 0, none⟩) 2 [x, y] :=
  C_blk (d := Kd.slice 28 KC) (xs := [x, y]) h (by simp) (fun j p hj => by
    match j, hj with
    | 0, hj =>
      obtain rfl : x = p := by simpa using hj
      refine ⟨[.slice A x.length a], rfl, ⟨A, a, rfl, hxa, hx⟩, fun i u hi => ?_⟩
      match i, hi with
      | 0, hi => simpa using hi
      | i + 1, hi => simp at hi
    | 1, hj =>
      obtain rfl : y = p := by simpa using hj
      refine ⟨[.slice B y.length b], rfl, ⟨B, b, rfl, hyb, hy⟩, fun i u hi => ?_⟩
      have e : 1 * (Kd.slice 28 KC).sz = 1 := rfl
      rw [e]
      match i, hi with
      | 0, hi => simpa using hi
      | i + 1, hi => simp at hi
    | j + 2, hj => simp at hj)
/-- Cells of the call's own, as they are read. -/
theorem C_of_K4 {w : World} {base : Nat} {A : Option Addr} {n c : Nat} {zs : List C4} {ok : Nat → Prop} (h : K4.R 28 w base ok (.slice A n c) zs) (hr : ∀ z ∈ zs, RdB w z) : n = zs.length ∧ n ≤ c ∧ KC.C w A (zs.map C4.c3).length (zs.map C4.c3) := by
  obtain ⟨A', c', e, hle, hC⟩ := Kd.R_reads h
  injection e with e1 e2 e3
  subst e1; subst e2; subst e3
  refine ⟨rfl, hle, ?_⟩
  obtain ⟨h1, h2, h3⟩ := hC
  refine ⟨rfl, by rw [List.length_map]; exact h2, fun hn => ?_⟩
  obtain ⟨ad, hA, hc⟩ := h3 (by simpa using hn)
  refine ⟨ad, hA, fun j p hj => ?_⟩
  rw [List.getElem?_map] at hj
  obtain ⟨z, hz, rfl⟩ := Option.map_eq_some_iff.1 hj
  obtain ⟨cs, k1, k2, k3⟩ := hc j z hz
  obtain rfl : cs = enc4 z := k2
  obtain ⟨r1, r2⟩ := hr z (List.mem_of_getElem? hz)
  exact ⟨enc4 z, rfl, ⟨[.int .i64 z.at_], _, rfl, rfl, ⟨[.int .i64 z.ep], _, rfl, rfl, ⟨z.A, z.c, rfl, r1, r2⟩⟩⟩, k3⟩
theorem OwnB.rd {w : World} {base : Nat} {z : C4} (h : OwnB w base z) : RdB w z := by
  obtain ⟨A, c, e, hle, hC⟩ := Kd.R_reads h
  injection e with e1 e2 e3
  unfold RdB
  rw [e1, e3]
  exact ⟨hle, hC⟩
end Go.Proofs.Ytnnahbmhjjamcaa.Quor
