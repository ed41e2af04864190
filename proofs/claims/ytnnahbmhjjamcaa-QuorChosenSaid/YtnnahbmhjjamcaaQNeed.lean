import Derived.Test.YtnnahbmhjjamcaaQLit
import Derived.Test.YtnnahbmhjjamcaaPQuorChosenx1
import Derived.Lib.SlBytesConst
/- Need; two lists of numbers are the same; two cells are. -/
namespace Go.Proofs.Ytnnahbmhjjamcaa.Quor
open Go.RowKit Go.Maps Go.Proofs.YtnnahbmhjjamcaaW.PrintWords Go.Proofs.YtnnahbmhjjamcaaW.PrintMore Go.Proofs.Ytnnahbmhjjamcaa.Cut Go.Proofs.Ytnnahbmhjjamcaa.PQuorChosen
attribute [local go_sem] max2_int min2_int max_two min_two
def needM (n : Int) : Int := (if n < 1 then 1 else n) / 2 + 1
set_option maxHeartbeats 1000000 in
theorem need_calls (n : Int) (hn : n ≤ 9223372036854775807) (w : World) : Calls Try.prog 8 #[.int .i64 n] w fun e w' => e = .returned (.int .i64 (needM n)) ∧ w' = w := by
  unfold needM
  by_cases h : n < 1
  · rw [if_pos h]
    go_enter Try.func8, Try.ntmps8
    go_wp2
    go_ret
    simp
  · rw [if_neg h]
    have h0 : 0 ≤ n := by omega
    have h1 : IntKind.i64.wrap (n / 2 + 1) = n / 2 + 1 := IntWalk.i64_in _ (by omega)
    have h2 : IntKind.i64.wrap (n / 2) = n / 2 := IntWalk.i64_in _ (by omega)
    go_enter Try.func8, Try.ntmps8
    go_wp2
    go_ret
    simp
theorem wrap_succ {i : Nat} (h : i ≤ 1000000) : wrap64 ((i : Int) + 1) = ((i + 1 : Nat) : Int) := by unfold wrap64; omega
theorem same_l0 {a b : List Int} (hl : a.length = b.length) (hb : a.length ≤ 1000000) : ∀ (d i k : Nat), a.length - i = d → i ≤ a.length → d < k → (∀ j, j < i → a[j]? = b[j]?) → tidemillref01_Same.l0 k a b (i : Int) = some (decide (a = b)) := by
  intro d
  induction d with
  | zero =>
    intro i k hd hi hk hs
    obtain ⟨k, rfl⟩ : ∃ m, k = m + 1 := ⟨k - 1, by omega⟩
    simp only [tidemillref01_Same.l0]
    rw [if_neg (by omega)]
    have : a = b := List.ext_getElem? fun j => by
      by_cases hj : j < i
      · exact hs j hj
      · rw [List.getElem?_eq_none (by omega), List.getElem?_eq_none (by omega)]
    rw [decide_eq_true this]
  | succ d ih =>
    intro i k hd hi hk hs
    obtain ⟨k, rfl⟩ : ∃ m, k = m + 1 := ⟨k - 1, by omega⟩
    have h1 : i < a.length := by omega
    have h2 : i < b.length := by omega
    have e1 : rd a (i : Int) = a[i] := by unfold rd; simp [List.getD, h1]
    have e2 : rd b (i : Int) = b[i] := by unfold rd; simp [List.getD, h2]
    simp only [tidemillref01_Same.l0]
    rw [if_pos (by omega), if_pos (by omega), if_pos (by omega), e1, e2]
    by_cases e : a[i] = b[i]
    · rw [if_pos e]
      rw [wrap_succ (by omega)]
      refine ih (i + 1) k (by omega) (by omega) (by omega) fun j hj => ?_
      by_cases hji : j = i
      · subst hji; rw [List.getElem?_eq_getElem h1, List.getElem?_eq_getElem h2, e]
      · exact hs j (by omega)
    · rw [if_neg e]
      have : a ≠ b := fun h => e (by simp [h])
      rw [decide_eq_false this]
theorem same_f {a b : List Int} (hb : a.length ≤ 1000000) : tidemillref01_Same.f (a.length + 1) a b = some (decide (a = b)) := by
  unfold tidemillref01_Same.f
  by_cases hl : a.length = b.length
  · rw [if_pos (by omega)]
    exact same_l0 hl hb a.length 0 _ rfl (by omega) (by omega) (fun j hj => by omega)
  · rw [if_neg (by omega), decide_eq_false (fun h => hl (by rw [h]))]
theorem C_int1 {w : World} {g : Nat} {b : Int} {t : TypeId} {fr : Nat × Nat} (h : w.heap[g]? = some (.cells #[.int .i64 b] t fr)) : (Kd.int .i64).C w (some ⟨g, 0, none⟩) 1 [b] :=
  C_blk (d := Kd.int .i64) (xs := [b]) h (by simp) (fun j p hj => by
    cases j with
    | zero =>
      obtain rfl : b = p := by simpa using hj
      refine ⟨[.int .i64 b], rfl, rfl, fun i u hi => ?_⟩
      cases i with
      | zero => simpa using hi
      | succ i => simp at hi
    | succ j => simp at hj)
theorem five (w : World) (a b c d e : Obj) : let W := ((((w.alloc a).alloc b).alloc c).alloc d).alloc e
    W.heap[w.heap.size]? = some a ∧ W.heap[w.heap.size + 1]? = some b ∧ W.heap[w.heap.size + 1 + 1]? = some c ∧ W.heap[w.heap.size + 1 + 1 + 1]? = some d ∧ W.heap[w.heap.size + 1 + 1 + 1 + 1]? = some e := by
  have old : ∀ {w : World} {g : Nat} {o x : Obj}, w.heap[g]? = some x → (w.alloc o).heap[g]? = some x := fun {w g o x} h => ((MapKept.heap_alloc w o).2 g (Array.getElem?_eq_some_iff.1 h).1).trans h
  have n0 := (MapKept.heap_alloc w a).1
  have n1 : ((w.alloc a).alloc b).heap[w.heap.size + 1]? = some b := by have h := (MapKept.heap_alloc (w.alloc a) b).1; simpa using h
  have n2 : (((w.alloc a).alloc b).alloc c).heap[w.heap.size + 1 + 1]? = some c := by have h := (MapKept.heap_alloc ((w.alloc a).alloc b) c).1; simpa using h
  have n3 : ((((w.alloc a).alloc b).alloc c).alloc d).heap[w.heap.size + 1 + 1 + 1]? = some d := by have h := (MapKept.heap_alloc (((w.alloc a).alloc b).alloc c) d).1; simpa using h
  have n4 : (((((w.alloc a).alloc b).alloc c).alloc d).alloc e).heap[w.heap.size + 1 + 1 + 1 + 1]? = some e := by have h := (MapKept.heap_alloc ((((w.alloc a).alloc b).alloc c).alloc d) e).1; simpa using h
  exact ⟨old (old (old (old n0))), old (old (old n1)), old (old n2), old n3, n4⟩
set_option maxRecDepth 100000 in
set_option maxHeartbeats 4000000 in
theorem shown_calls (w : World) : Calls Try.prog 7 #[] w fun e w' => e = .returned (.bool true) ∧ Below w.heap.size w w' := by
  have kc := fun (w : World) (C : Array Value) (n c : Nat) => Lib.run_convert_bytes_const (P := Try.prog) w 26 5 C n c Try.underlying26 Try.underlying5
  have k2 := kc ((w.alloc (.cells #[.int .u8 97] 5 (1, 2))).alloc (.cells #[.int .i64 1, .int .i64 2, .slice (some ⟨w.heap.size, 0, none⟩) 1 1] 28)) #[.int .u8 98] 1 1
  rw [show ((w.alloc (.cells #[.int .u8 97] 5 (1, 2))).alloc (.cells #[.int .i64 1, .int .i64 2, .slice (some ⟨w.heap.size, 0, none⟩) 1 1] 28)).heap.size = w.heap.size + 1 + 1 from by simp] at k2
  go_enter Try.func7, Try.ntmps7
  go_wp2_with fail
  obtain ⟨b0, b1, b2, b3, b4⟩ := five w (.cells #[.int .u8 97] 5 (1, 2)) (.cells #[.int .i64 1, .int .i64 2, .slice (some ⟨w.heap.size, 0, none⟩) 1 1] 28) (.cells #[.int .u8 98] 5 (1, 2)) (.cells #[.int .i64 1, .int .i64 3, .slice (some ⟨w.heap.size + 1 + 1, 0, none⟩) 1 1] 28) (.cells #[.slice (some ⟨w.heap.size + 1, 0, none⟩) 1 1, .slice (some ⟨w.heap.size + 1 + 1 + 1, 0, none⟩) 1 1] 31)
  have hB : Below w.heap.size w (((((w.alloc (.cells #[.int .u8 97] 5 (1, 2))).alloc (.cells #[.int .i64 1, .int .i64 2, .slice (some ⟨w.heap.size, 0, none⟩) 1 1] 28)).alloc (.cells #[.int .u8 98] 5 (1, 2))).alloc (.cells #[.int .i64 1, .int .i64 3, .slice (some ⟨w.heap.size + 1 + 1, 0, none⟩) 1 1] 28)).alloc (.cells #[.slice (some ⟨w.heap.size + 1, 0, none⟩) 1 1, .slice (some ⟨w.heap.size + 1 + 1 + 1, 0, none⟩) 1 1] 31)) := ((((((Below.refl _ _).alloc (Nat.le_refl _) _).alloc (by simp) _).alloc (by simp; omega) _).alloc (by simp; omega) _).alloc (by simp; omega) _)
  generalize ((((w.alloc (.cells #[.int .u8 97] 5 (1, 2))).alloc (.cells #[.int .i64 1, .int .i64 2, .slice (some ⟨w.heap.size, 0, none⟩) 1 1] 28)).alloc (.cells #[.int .u8 98] 5 (1, 2))).alloc (.cells #[.int .i64 1, .int .i64 3, .slice (some ⟨w.heap.size + 1 + 1, 0, none⟩) 1 1] 28)).alloc (.cells #[.slice (some ⟨w.heap.size + 1, 0, none⟩) 1 1, .slice (some ⟨w.heap.size + 1 + 1 + 1, 0, none⟩) 1 1] 31) = W at *
  have r1 : RdB W ⟨1, 2, [97], some ⟨w.heap.size, 0, none⟩, 1⟩ := ⟨Nat.le_refl _, C_bytes1 b0⟩
  have r2 : RdB W ⟨1, 3, [98], some ⟨w.heap.size + 1 + 1, 0, none⟩, 1⟩ := ⟨Nat.le_refl _, C_bytes1 b2⟩
  have hC := C_rows2 (x := [(1, 2, [97])]) (y := [(1, 3, [98])]) b4 (C_cell1 b1 r1) (Nat.le_refl _) (C_cell1 b3 r2) (Nat.le_refl _)
  have hm := merge_calls [[(1, 2, [97])], [(1, 3, [98])]] (some ⟨w.heap.size + 1 + 1 + 1 + 1, 0, none⟩) 2 W hC (by decide) (by decide)
  have HB := Lib.hid hB
  clear k2 b0 b1 b2 b3 b4 hB r1 r2 hC
  refine hm.mono ?_
  rintro e w1 ⟨v1, out, rfl, hR, hO, hout, hB1⟩
  have hout2 : out.map C4.c3 = [(1, 3, [98])] := hout.trans (by decide)
  obtain ⟨y, r, rfl, hy, hr⟩ := List.map_eq_cons_iff.1 hout2
  obtain rfl : r = [] := List.map_eq_nil_iff.1 hr
  obtain ⟨ya, ye, yb, yA, yc⟩ := y
  obtain ⟨rfl, rfl, rfl⟩ : ya = 1 ∧ ye = 3 ∧ yb = [98] := by simpa [C4.c3] using hy
  obtain ⟨A1, c1, rfl, hc1, hK⟩ := Kd.R_reads hR
  have HK := Lib.hid hK
  have HB1 := Lib.hid hB1
  clear hm hR hO hout hout2 hy hr hB1 hK
  go_wp2_with fail
  have b5 := (MapKept.heap_alloc w1 (.cells #[.int .i64 0, .int .i64 0, .slice none 0 0, .int .i64 2, .int .i64 0, .slice none 0 0] 28)).1
  have hB2 := (Below.refl w1.heap.size w1).alloc (Nat.le_refl _) (.cells #[.int .i64 0, .int .i64 0, .slice none 0 0, .int .i64 2, .int .i64 0, .slice none 0 0] 28)
  generalize w1.alloc (.cells #[.int .i64 0, .int .i64 0, .slice none 0 0, .int .i64 2, .int .i64 0, .slice none 0 0] 28) = W2 at *
  have r0 : ∀ a e, RdB W2 ⟨a, e, [], none, 0⟩ := fun a e => ⟨Nat.le_refl _, ⟨rfl, Nat.zero_le _, fun h => absurd h (Nat.lt_irrefl 0)⟩⟩
  have hh := holes_calls [(0, 0, []), (2, 0, [])] (some ⟨w1.heap.size, 0, none⟩) 2 W2 (C_cell2 (y := ⟨0, 0, [], none, 0⟩) (z := ⟨2, 0, [], none, 0⟩) b5 (r0 0 0) (r0 2 0)) (by decide) (by decide)
  rw [show holesTo [(0, 0, []), (2, 0, [])] (topM [(0, 0, []), (2, 0, [])] + 1).toNat = [1] from by decide] at hh
  have HB2 := Lib.hid hB2
  clear b5 hB2 r0
  refine hh.mono ?_
  rintro e w3 ⟨v3, rfl, hR3, hB3⟩
  obtain ⟨A3, c3, rfl, hc3, hC3⟩ := Kd.R_reads hR3
  have HC3 := Lib.hid (And.intro hC3 hc3)
  have hb3 := below_then HB2.out HB2.out.size hB3
  have HB3 := Lib.hid hb3
  have hK3 := Kd.C_below HK.out hb3
  obtain ⟨ad, z, rfl, hz, a0, a1, a2⟩ := at_K4 hK3 0 (by simp)
  obtain rfl : ⟨1, 3, [98], yA, yc⟩ = z := by simpa using hz
  simp only at a0 a1 a2
  have e0 : ad.add (0 * 3) = ad := by cases ad; rfl
  rw [e0] at a1
  have hsame := fun (W : World) (hb : Below w3.heap.size w3 W) (g : Nat) (hg : W.heap[g]? = some (.cells #[.int .i64 1] 3 (0, 0))) => tidemillref01_Same.calls 2 A3 c3 [1] (some ⟨g, 0, none⟩) 1 [1] true W (Kd.C_below HC3.out.1 hb) HC3.out.2 (C_int1 hg) (Nat.le_refl _) (same_f (a := [1]) (b := [1]) (by decide))
  have hsm := hsame (w3.alloc (.cells #[.int .i64 1] 3)) ((Below.refl _ _).alloc (Nat.le_refl _) _) w3.heap.size (MapKept.heap_alloc w3 _).1
  have hN := need_calls 3 (by decide)
  rw [show needM 3 = 2 from by decide] at hN
  clear hh hR3 hB3 hC3 hc3 hb3 hK3 hz a0 a2 e0 hsame HK
  go_wp2_with (first
    | (go_at_call 8; refine (hN _).mono ?_; rintro e w' ⟨rfl, rfl⟩)
    | (go_at_call 16; refine hsm.mono ?_; rintro e w5 ⟨rfl, hd⟩))
  go_ret
  refine ⟨rfl, ?_⟩
  have f1 := below_then HB.out HB.out.size HB1.out
  have f2 := below_then f1 (Nat.le_trans HB.out.size HB1.out.size) HB3.out
  obtain ⟨q, hq⟩ := hd.out
  rw [hq]
  exact pw_below_drewN (f2.alloc f2.size _) q
end Go.Proofs.Ytnnahbmhjjamcaa.Quor
