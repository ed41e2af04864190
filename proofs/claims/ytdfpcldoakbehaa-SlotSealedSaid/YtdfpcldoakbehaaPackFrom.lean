import Derived.Test.YtdfpcldoakbehaaPackRd
import Derived.Test.YtdfpcldoakbehaaRow
/- The walk of pack.From. -/
namespace Go.Proofs.Ytdfpcldoakbehaa.Pack
open Go.RowKit Go.Proofs.YtdfpcldoakbehaaW.PrintWords Go.Proofs.Ytdfpcldoakbehaa.Cut Go.Proofs.Ytdfpcldoakbehaa.Row
theorem news_of {w : World} {A : Option Addr} {l : List Int} (hK : (Kd.int .u8).C w A l.length l) : 0 < (nums .u8 l).length → ∃ a, A = some a ∧ ∀ j u, (nums .u8 l)[j]? = some u → w.cell? (a.add j) = some u := fun h0 => by
  rw [nums_length] at h0
  obtain ⟨_, _, h⟩ := hK
  obtain ⟨a, ha, hc⟩ := h h0
  refine ⟨a, ha, fun j u hu => ?_⟩
  simp only [nums, List.getElem?_map, Option.map_eq_some_iff] at hu
  obtain ⟨p, hp, rfl⟩ := hu
  obtain ⟨cs, _, hcs, hat⟩ := hc j p hp
  obtain rfl : cs = [.int .u8 p] := hcs
  have := hat 0 _ rfl
  have e1 : (Kd.int .u8).sz = 1 := rfl
  rwa [e1, Nat.mul_one, Nat.add_zero] at this
/-- append(v, l...) of bytes: v a row of the call's own. -/
theorem append_u8 (w : World) (base : Nat) (v : Value) (xs : List Int) (hr : Row w base 5 v (nums .u8 xs)) (A : Option Addr) (c : Nat) (l : List Int) (hK : (Kd.int .u8).C w A l.length l) (hlim : xs.length + l.length ≤ 140737488355328) (hbase : base ≤ w.heap.size) :
    ∃ A' c' w', (Builtin.append_ #[23, 23] 23 #[v, .slice A l.length c]).run Try.prog w = .ok (.slice A' (xs.length + l.length) c') w' ∧ Row w' base 5 (.slice A' (xs.length + l.length) c') (nums .u8 (xs ++ l)) ∧ w.grownBy w' v.ownBlock ∧ (A' = none ∨ (Value.slice A' (xs.length + l.length) c').ownBlock = v.ownBlock ∨ ∃ b, (Value.slice A' (xs.length + l.length) c').ownBlock = some b ∧ w.heap.size ≤ b) := by
  obtain ⟨i5, hi5, hz5, hs5, hb5⟩ := info_parts info5
  obtain ⟨v', w', hrun, hrow, hgr, hat⟩ := run_append (P := Try.prog) w base 23 23 5 i5 (.int .u8 0) 1 Try.underlying23 hi5 hz5 hs5 hb5 rfl v (nums .u8 xs) hr A c (nums .u8 l) (news_of hK) (fun u hu => by
    simp only [nums, List.mem_map] at hu
    obtain ⟨x, _, rfl⟩ := hu; rfl) (by rw [nums_length, nums_length]; omega) (by rw [nums_length, nums_length]; omega) hbase
  rw [← nums_append] at hrow
  obtain ⟨A', c', hv, _, _⟩ := hrow.slice
  rw [nums_length, List.length_append] at hv
  subst hv
  rw [nums_length] at hrun
  exact ⟨A', c', w', hrun, hrow, hgr, .inr hat⟩
theorem empty_row (w : World) (base : Nat) (hb : base ≤ w.heap.size) : Row (w.alloc (.cells #[] 5)) base 5 (.slice (some ⟨w.heap.size, 0, none⟩) 0 0) (nums .u8 []) :=
  .inr ⟨w.heap.size, 0, #[], rfl, hb, heap_alloc_new w _, Nat.le_refl _, Nat.le_refl _, by simp, rfl⟩
theorem from_calls (A : Option Addr) (n c : Nat) (l : List Int) (w : World) (hl : l.length = n) (hn : n ≤ 140737488351232) (hC : (Kd.int .u8).C w A n l) :
    Calls Try.prog 32 #[.slice A n c] w fun e w' => ∃ g, e = .returned (.pointer (some ⟨g, 0, none⟩)) ∧ w.heap.size ≤ g ∧ (∃ A' c', Rdr w' g A' c' l) ∧ Below w.heap.size w w' := by
  subst hl
  obtain ⟨A1, c1, w1, hr1, R1, G1, at1⟩ := append_u8 (w.alloc (.cells #[] 5)) w.heap.size _ [] (empty_row w w.heap.size (Nat.le_refl _)) A c l (Kd.C_below hC ((Below.refl _ _).alloc (Nat.le_refl _) _)) (by simp; omega) (by simp)
  have hb1 : Below w.heap.size w w1 := ((Below.refl w.heap.size w).alloc (Nat.le_refl _) (.cells #[] 5)).grown G1 (by simp) (fun k hk => by
    have hk' : k = w.heap.size := by simpa [Value.ownBlock] using hk.symm
    omega)
  obtain ⟨A2, c2, he, hc2, hC2⟩ := R1.reads
  simp only [List.length_nil, Nat.zero_add, List.nil_append] at hr1 he hC2 hc2
  injection he with h1 _ h3
  subst h1; subst h3
  have hfin : Rdr (w1.alloc (.cells #[.slice A1 l.length c1] 89)) w1.heap.size A1 c1 l := ⟨heap_alloc_new w1 _, hc2, Kd.C_below hC2 ((Below.refl _ _).alloc (Nat.le_refl _) _)⟩
  have HB := Lib.hid (hb1.alloc hb1.size (.cells #[.slice A1 l.length c1] 89)); have HR := Lib.hid hr1; have HF := Lib.hid hfin; have HS := Lib.hid hb1.size
  clear R1 G1 at1 hb1 hC2 hfin hr1 hC
  go_enter Try.func32, Try.ntmps32
  go_wp2_with (at_builtin; refine wpList_append_run rfl _ _ 23 rfl _ _ _ rfl rfl HR.out ?_)
  go_ret
  exact ⟨_, rfl, HS.out, ⟨A1, c1, HF.out⟩, HB.out⟩
end Go.Proofs.Ytdfpcldoakbehaa.Pack
