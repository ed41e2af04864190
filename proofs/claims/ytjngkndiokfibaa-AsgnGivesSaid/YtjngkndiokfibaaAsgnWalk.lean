import Derived.Test.YtjngkndiokfibaaProg
import Derived.Test.YtjngkndiokfibaaAsgnM
import Derived.Test.YtjngkndiokfibaaWZeros
import Derived.Test.YtjngkndiokfibaaWMore
import Derived.Test.YtjngkndiokfibaaCut
import Derived.Lib.Hide
import Derived.Outline
import Derived.BigQuiet
import Derived.Deep.QuietTactic
/- The walk of Assign and of its two closures. -/
namespace Go.Proofs.Ytjngkndiokfibaa.AsgnWalk
open Go.RowKit Go.Proofs.YtjngkndiokfibaaW.PrintWords Go.Proofs.YtjngkndiokfibaaW.PrintLast Go.Proofs.YtjngkndiokfibaaW.PrintMore Go.Proofs.Ytjngkndiokfibaa.AsgnM Go.Proofs.Ytjngkndiokfibaa.Cut
theorem info3 : (Try.prog.info? 3).map (fun i => (i.zero, i.size, i.bytes)) = some (some (.int .i64 0), 1, 8) := by kernel_rfl

/-- The cells that Assign keeps: its two rows, their two variables, the boxed list of who is alive. -/
structure St (w0 w : World) (b4 b10 b13 go gh : Nat) (A1 : Option Addr) (c1 n T : Nat) (s : List Int × List Int) : Prop where
  below : Below w0.heap.size w0 w
  k4 : w0.heap.size ≤ b4
  k10 : w0.heap.size ≤ b10
  k13 : w0.heap.size ≤ b13
  ko : w0.heap.size ≤ go
  kh : w0.heap.size ≤ gh
  h4 : w.heap[b4]? = some (.cells #[.slice A1 n c1] 25 (0, 0))
  h10 : w.heap[b10]? = some (.cells #[.slice (some ⟨go, 0, none⟩) T T] 44 (0, 0))
  h13 : w.heap[b13]? = some (.cells #[.slice (some ⟨gh, 0, none⟩) n n] 44 (0, 0))
  ro : (Kd.int .i64).R 3 w w0.heap.size (fun k => k = go) (.slice (some ⟨go, 0, none⟩) T T) s.1
  rh : (Kd.int .i64).R 3 w w0.heap.size (fun k => k = gh) (.slice (some ⟨gh, 0, none⟩) n n) s.2
  lo : s.1.length = T
  lh : s.2.length = n
  ne : go ≠ gh
theorem St.step {w0 w w' : World} {b4 b10 b13 go gh : Nat} {A1 : Option Addr} {c1 n T : Nat} {s : List Int × List Int} (h : St w0 w b4 b10 b13 go gh A1 c1 n T s) (hb : Below w.heap.size w w') : St w0 w' b4 b10 b13 go gh A1 c1 n T s :=
  ⟨below_step h.below hb, h.k4, h.k10, h.k13, h.ko, h.kh, (hb.block _ (Array.getElem?_eq_some_iff.1 h.h4).1).trans h.h4, (hb.block _ (Array.getElem?_eq_some_iff.1 h.h10).1).trans h.h10, (hb.block _ (Array.getElem?_eq_some_iff.1 h.h13).1).trans h.h13, Kd.R_below h.ro hb, Kd.R_below h.rh hb, h.lo, h.lh, h.ne⟩
theorem block_set {w : World} {g g' j : Nat} {t t' : TypeId} {cs cs' : Array Value} (h : w.heap[g]? = some (.cells cs t (0, 0))) (h' : w.heap[g']? = some (.cells cs' t' (0, 0))) (hne : t ≠ t') (v : Value) : (w.setCell ⟨g', j, none⟩ v).heap[g]? = some (.cells cs t (0, 0)) :=
  (Below.heap_setCell w ⟨g', j, none⟩ v g (blk_ne h h' hne)).trans h

section
variable {w0 w : World} {b4 b10 b13 go gh : Nat} {A1 : Option Addr} {c1 n T : Nat} {s : List Int × List Int}
theorem St.cell_o (h : St w0 w b4 b10 b13 go gh A1 c1 n T s) (i : Int) (h0 : 0 ≤ i) (h1 : i < T) : w.cell? ⟨go, i.toNat, none⟩ = some (.int .i64 (s.1.getD i.toNat 0)) ∧ w.frozen? ⟨go, i.toNat, none⟩ = false := by
  have hr := h.ro; rw [← h.lo] at hr
  exact Kd.R_cell 0 hr i h0 (by rw [h.lo]; exact h1)
theorem St.cell_h (h : St w0 w b4 b10 b13 go gh A1 c1 n T s) (i : Int) (h0 : 0 ≤ i) (h1 : i < n) : w.cell? ⟨gh, i.toNat, none⟩ = some (.int .i64 (s.2.getD i.toNat 0)) ∧ w.frozen? ⟨gh, i.toNat, none⟩ = false := by
  have hr := h.rh; rw [← h.lh] at hr
  exact Kd.R_cell 0 hr i h0 (by rw [h.lh]; exact h1)
theorem St.set_o (h : St w0 w b4 b10 b13 go gh A1 c1 n T s) (i : Int) (x : Int) : St w0 (w.setCell ⟨go, i.toNat, none⟩ (.int .i64 x)) b4 b10 b13 go gh A1 c1 n T (s.1.set i.toNat x, s.2) := by
  have hr := h.ro
  obtain ⟨cells, ht⟩ := own_typed (Kd.own_of_R hr) go rfl
  rw [← h.lo] at hr
  refine ⟨below_set h.below h.ko, h.k4, h.k10, h.k13, h.ko, h.kh, block_set h.h4 ht (by decide) _, block_set h.h10 ht (by decide) _, block_set h.h13 ht (by decide) _, ?_, Kd.R_far h.rh (fun k hk => by rw [hk]; exact Ne.symm h.ne) _, by rw [List.length_set]; exact h.lo, h.lh, h.ne⟩
  have := (Kd.R_put hr i x).1
  rw [h.lo] at this
  exact this
theorem St.set_h (h : St w0 w b4 b10 b13 go gh A1 c1 n T s) (i : Int) (x : Int) : St w0 (w.setCell ⟨gh, i.toNat, none⟩ (.int .i64 x)) b4 b10 b13 go gh A1 c1 n T (s.1, s.2.set i.toNat x) := by
  have hr := h.rh
  obtain ⟨cells, ht⟩ := own_typed (Kd.own_of_R hr) gh rfl
  rw [← h.lh] at hr
  refine ⟨below_set h.below h.kh, h.k4, h.k10, h.k13, h.ko, h.kh, block_set h.h4 ht (by decide) _, block_set h.h10 ht (by decide) _, block_set h.h13 ht (by decide) _, Kd.R_far h.ro (fun k hk => by rw [hk]; exact h.ne) _, ?_, h.lo, by rw [List.length_set]; exact h.lh, h.ne⟩
  have := (Kd.R_put hr i x).1
  rw [h.lh] at this
  exact this
end

set_option maxHeartbeats 1000000 in
theorem give_calls {w0 w : World} {b4 b10 b13 go gh : Nat} {A1 : Option Addr} {c1 n T : Nat} {s : List Int × List Int} (S : St w0 w b4 b10 b13 go gh A1 c1 n T s) (t v : Int) (ht0 : 0 ≤ t) (ht1 : t < T) (hv0 : 0 ≤ v) (hv1 : v < n)
    (hb0 : 0 ≤ s.2.getD v.toNat 0) (hb1 : s.2.getD v.toNat 0 ≤ 1000000) :
    Calls Try.prog 28 #[.int .i64 t, .int .i64 v, .pointer (some ⟨b10, 0, none⟩), .pointer (some ⟨b13, 0, none⟩)] w fun e w' => e = .returned (.tuple #[]) ∧ St w0 w' b4 b10 b13 go gh A1 c1 n T (s.1.set t.toNat v, s.2.set v.toNat (s.2.getD v.toNat 0 + 1)) := by
  have S1 := S.set_o t v
  have S2 := Lib.hid (S1.set_h v (s.2.getD v.toNat 0 + 1))
  have c10 : w.cell? ⟨b10, 0, none⟩ = some (.slice (some ⟨go, 0, none⟩) T T) := blk_cell S.h10 0
  have c13 : (w.setCell ⟨go, t.toNat, none⟩ (.int .i64 v)).cell? ⟨b13, 0, none⟩ = some (.slice (some ⟨gh, 0, none⟩) n n) := blk_cell S1.h13 0
  obtain ⟨co, fo⟩ := S.cell_o t ht0 ht1
  obtain ⟨ch, fh⟩ := S1.cell_h v hv0 hv1
  clear S S1
  generalize s.2.getD v.toNat 0 = hv at *
  go_enter Try.func28, Try.ntmps28
  go_wp2
  go_end0
  exact ⟨rfl, S2.out⟩

set_option maxHeartbeats 1000000 in
theorem least_calls {w0 w : World} {b4 b10 b13 go gh : Nat} {A1 : Option Addr} {c1 T : Nat} {s : List Int × List Int} (alive : List Bool) (S : St w0 w b4 b10 b13 go gh A1 c1 alive.length T s) (hA : Kd.bool.C w A1 alive.length alive) (hn : alive.length ≤ 9223372036854775807) :
    Calls Try.prog 29 #[.pointer (some ⟨b4, 0, none⟩), .pointer (some ⟨b13, 0, none⟩)] w fun e w' => e = .returned (.int .i64 (best alive s.2 alive.length)) ∧ Drawn0 w w' := by
  have c4 : w.cell? ⟨b4, 0, none⟩ = some (.slice A1 alive.length c1) := blk_cell S.h4 0
  have SS := Lib.hid S
  have HA := Lib.hid hA
  clear S hA
  go_enter Try.func29, Try.ntmps29
  go_wp2
  go_loopw [3, 8] (fun b i wr => ∃ k : Nat, k ≤ alive.length ∧ i = .int .i64 k ∧ b = .int .i64 (best alive s.2 k) ∧ Drawn0 w wr) (fun _ i _ => alive.length - (intOf i).toNat)
  case atStart => exact ⟨0, Nat.zero_le _, rfl, rfl, Drawn0.refl _⟩
  case round =>
    obtain ⟨k, hk, rfl, rfl, hd⟩ := hrel
    have SR := SS.out.step hd.below
    have HR := Kd.C_below HA.out hd.below
    by_cases hlt : k < alive.length
    · have HN := Lib.hid (best_succ alive s.2 k)
      have hbr := best_range alive s.2 k
      obtain ⟨ad, hAd, hca⟩ := Kd.at_bool HR (k : Int) (by omega) (by omega)
      subst hAd
      have c13 : wr.cell? ⟨b13, 0, none⟩ = some (.slice (some ⟨gh, 0, none⟩) alive.length alive.length) := blk_cell SR.h13 0
      obtain ⟨ch, _⟩ := SR.cell_h (k : Int) (by omega) (by omega)
      simp only [Int.toNat_natCast] at hca ch
      generalize best alive s.2 k = b at *
      have hki : ((k : Nat) : Int) < (alive.length : Int) := by omega
      by_cases ha : alive.getD k false = true
      · rw [show rdOf false alive (k : Int) = true from by simpa [rdOf] using ha] at hca
        rcases hbr with rfl | ⟨hb0, hb1, _⟩
        · have HF : Hid (best alive s.2 (k + 1) = (k : Int)) := Lib.hid (by rw [HN.out]; unfold bstep; rw [if_pos (by rw [ha]; rfl)])
          clear ha
          go_wp2
          go_quiet (fail)
          go_wp2
          go_roundw
          case rel => exact ⟨k + 1, by omega, by go_num, by rw [HF.out], hd.step _⟩
          case measure => simp [intOf]; omega
        · obtain ⟨cb, _⟩ := SR.cell_h b hb0 (by omega)
          have hb2 : (b == -1) = false := beq_eq_false_iff_ne.2 (by omega)
          have hb3 : b < (alive.length : Int) := by omega
          by_cases hh : s.2.getD k 0 < s.2.getD b.toNat 0
          · have HF : Hid (best alive s.2 (k + 1) = (k : Int)) := Lib.hid (by rw [HN.out]; unfold bstep; rw [if_pos (by rw [ha, hb2]; simpa using hh)])
            clear ha
            have hh' : decide (s.2.getD k 0 < s.2.getD b.toNat 0) = true := decide_eq_true hh
            generalize s.2.getD k 0 = x at *
            generalize s.2.getD b.toNat 0 = y at *
            go_wp2
            go_quiet (fail)
            go_wp2
            go_roundw
            case rel => exact ⟨k + 1, by omega, by go_num, by rw [HF.out], hd.step _⟩
            case measure => simp [intOf]; omega
          · have HF : Hid (best alive s.2 (k + 1) = b) := Lib.hid (by rw [HN.out]; unfold bstep; rw [if_neg (by rw [ha, hb2]; simpa using hh)])
            clear ha
            have hh' : decide (s.2.getD k 0 < s.2.getD b.toNat 0) = false := decide_eq_false hh
            generalize s.2.getD k 0 = x at *
            generalize s.2.getD b.toNat 0 = y at *
            go_wp2
            go_quiet (fail)
            go_wp2
            go_roundw
            case rel => exact ⟨k + 1, by omega, by go_num, by rw [HF.out], hd.step _⟩
            case measure => simp [intOf]; omega
      · rw [show rdOf false alive (k : Int) = false from by simpa [rdOf] using ha] at hca
        have HF : Hid (best alive s.2 (k + 1) = b) := Lib.hid (by rw [HN.out]; unfold bstep; rw [if_neg (by rw [Bool.eq_false_iff.2 ha]; simp)])
        clear ha hbr
        go_wp2
        go_quiet (fail)
        go_wp2
        go_roundw
        case rel => exact ⟨k + 1, by omega, by go_num, by rw [HF.out], hd.step _⟩
        case measure => simp [intOf]; omega
    · obtain rfl : k = alive.length := by omega
      go_wp2
      go_ret
      exact ⟨rfl, hd⟩

/-- The same ahead of the second row. -/
structure So (w0 w : World) (b4 b10 go : Nat) (A1 : Option Addr) (c1 n T : Nat) (o : List Int) : Prop where
  below : Below w0.heap.size w0 w
  k4 : w0.heap.size ≤ b4
  k10 : w0.heap.size ≤ b10
  ko : w0.heap.size ≤ go
  h4 : w.heap[b4]? = some (.cells #[.slice A1 n c1] 25 (0, 0))
  h10 : w.heap[b10]? = some (.cells #[.slice (some ⟨go, 0, none⟩) T T] 44 (0, 0))
  ro : (Kd.int .i64).R 3 w w0.heap.size (fun k => k = go) (.slice (some ⟨go, 0, none⟩) T T) o
  lo : o.length = T
section
variable {w0 w : World} {b4 b10 go : Nat} {A1 : Option Addr} {c1 n T : Nat} {o : List Int}
theorem So.step {w' : World} (h : So w0 w b4 b10 go A1 c1 n T o) (hb : Below w.heap.size w w') : So w0 w' b4 b10 go A1 c1 n T o :=
  ⟨below_step h.below hb, h.k4, h.k10, h.ko, (hb.block _ (Array.getElem?_eq_some_iff.1 h.h4).1).trans h.h4, (hb.block _ (Array.getElem?_eq_some_iff.1 h.h10).1).trans h.h10, Kd.R_below h.ro hb, h.lo⟩
theorem So.cell_o (h : So w0 w b4 b10 go A1 c1 n T o) (i : Int) (h0 : 0 ≤ i) (h1 : i < T) : w.cell? ⟨go, i.toNat, none⟩ = some (.int .i64 (o.getD i.toNat 0)) ∧ w.frozen? ⟨go, i.toNat, none⟩ = false := by
  have hr := h.ro; rw [← h.lo] at hr
  exact Kd.R_cell 0 hr i h0 (by rw [h.lo]; exact h1)
theorem So.set_o (h : So w0 w b4 b10 go A1 c1 n T o) (i : Int) (x : Int) : So w0 (w.setCell ⟨go, i.toNat, none⟩ (.int .i64 x)) b4 b10 go A1 c1 n T (o.set i.toNat x) := by
  have hr := h.ro
  obtain ⟨cells, ht⟩ := own_typed (Kd.own_of_R hr) go rfl
  rw [← h.lo] at hr
  refine ⟨below_set h.below h.ko, h.k4, h.k10, h.ko, block_set h.h4 ht (by decide) _, block_set h.h10 ht (by decide) _, ?_, by rw [List.length_set]; exact h.lo⟩
  have := (Kd.R_put hr i x).1
  rw [h.lo] at this
  exact this
theorem So.made {w : World} (hb : Below w0.heap.size w0 w) (k4 : w0.heap.size ≤ b4) (h4 : w.heap[b4]? = some (.cells #[.slice A1 n c1] 25 (0, 0))) (hT : T ≤ 1000) :
    So w0 ((w.alloc (.cells (madeCells #[.int .i64 0] T) 3)).alloc (.cells #[.slice (some ⟨w.heap.size, 0, none⟩) T T] 44)) b4 (w.heap.size + 1) w.heap.size A1 c1 n T (List.replicate T 0) := by
  have hs := hb.size
  have hb1 := hb.alloc hs (.cells (madeCells #[.int .i64 0] T) 3)
  have hb2 := hb1.alloc hb1.size (.cells #[.slice (some ⟨w.heap.size, 0, none⟩) T T] 44)
  have hw := (((Below.refl w.heap.size w).alloc (Nat.le_refl _) (.cells (madeCells #[.int .i64 0] T) 3)).alloc (by simp) (.cells #[.slice (some ⟨w.heap.size, 0, none⟩) T T] 44))
  refine ⟨hb2, k4, by omega, hs, (hw.block _ (Array.getElem?_eq_some_iff.1 h4).1).trans h4, ?_, ?_, by simp⟩
  · have := heap_alloc_new (w.alloc (.cells (madeCells #[.int .i64 0] T) 3)) (.cells #[.slice (some ⟨w.heap.size, 0, none⟩) T T] 44)
    simpa using this
  · have h1 := own_made w w0.heap.size 3 .i64 T hs (by omega)
    have h2 : (w.alloc (.cells (madeCells #[.int .i64 0] T) 3)).ownsRow w0.heap.size 3 1 (.slice (some ⟨w.heap.size, 0, none⟩) T T) (List.replicate T (0 : Int)).length (encs (Value.int .i64) (List.replicate T 0)) := by
      rw [List.length_replicate]; exact h1
    have h3 : (Kd.int .i64).R 3 (w.alloc (.cells (madeCells #[.int .i64 0] T) 3)) w0.heap.size (fun k => k = w.heap.size) (.slice (some ⟨w.heap.size, 0, none⟩) T T) (List.replicate T 0) := Kd.R_of_own h2 (fun k hk => by simpa [Value.ownBlock] using hk.symm)
    exact Kd.R_below h3 ((Below.refl _ _).alloc (Nat.le_refl _) _)
end
theorem St.made {w0 w : World} {b4 b10 go : Nat} {A1 : Option Addr} {c1 n T : Nat} {o : List Int} (h : So w0 w b4 b10 go A1 c1 n T o) (hn : n ≤ 9223372036854775807) :
    St w0 ((w.alloc (.cells (madeCells #[.int .i64 0] n) 3)).alloc (.cells #[.slice (some ⟨w.heap.size, 0, none⟩) n n] 44)) b4 b10 (w.heap.size + 1) go w.heap.size A1 c1 n T (o, List.replicate n 0) := by
  have hs := h.below.size
  have hw := (((Below.refl w.heap.size w).alloc (Nat.le_refl _) (.cells (madeCells #[.int .i64 0] n) 3)).alloc (by simp) (.cells #[.slice (some ⟨w.heap.size, 0, none⟩) n n] 44))
  have h' := h.step hw
  refine ⟨h'.below, h'.k4, h'.k10, by omega, h'.ko, hs, h'.h4, h'.h10, ?_, h'.ro, ?_, h'.lo, by simp, ?_⟩
  · have := heap_alloc_new (w.alloc (.cells (madeCells #[.int .i64 0] n) 3)) (.cells #[.slice (some ⟨w.heap.size, 0, none⟩) n n] 44)
    simpa using this
  · have h1 := own_made w w0.heap.size 3 .i64 n hs hn
    have h2 : (w.alloc (.cells (madeCells #[.int .i64 0] n) 3)).ownsRow w0.heap.size 3 1 (.slice (some ⟨w.heap.size, 0, none⟩) n n) (List.replicate n (0 : Int)).length (encs (Value.int .i64) (List.replicate n 0)) := by
      rw [List.length_replicate]; exact h1
    have h3 : (Kd.int .i64).R 3 (w.alloc (.cells (madeCells #[.int .i64 0] n) 3)) w0.heap.size (fun k => k = w.heap.size) (.slice (some ⟨w.heap.size, 0, none⟩) n n) (List.replicate n 0) := Kd.R_of_own h2 (fun k hk => by simpa [Value.ownBlock] using hk.symm)
    exact Kd.R_below h3 ((Below.refl _ _).alloc (Nat.le_refl _) _)
  · obtain ⟨cells, ht⟩ := own_typed (Kd.own_of_R h.ro) go rfl
    exact Nat.ne_of_lt (Array.getElem?_eq_some_iff.1 ht).1
theorem set_fill (T k : Nat) (h : k < T) : (List.replicate k (-1 : Int) ++ List.replicate (T - k) 0).set k (-1) = List.replicate (k + 1) (-1) ++ List.replicate (T - (k + 1)) 0 := by
  rw [List.set_append_right _ _ (by simp), List.length_replicate, Nat.sub_self, show T - k = (T - (k + 1)) + 1 from by omega, List.replicate_succ, List.set_cons_zero, List.replicate_succ', List.append_assoc]
  rfl
theorem count_take (alive : List Bool) (k : Nat) (h : k < alive.length) : (alive.take (k + 1)).count true = (alive.take k).count true + if alive.getD k false = true then 1 else 0 := by
  rw [List.take_succ_eq_append_getElem h, List.count_append]
  congr 1
  simp only [List.getD_eq_getElem?_getD, List.getElem?_eq_getElem h, Option.getD_some, List.count_singleton, beq_iff_eq]
set_option maxHeartbeats 4000000 in
set_option maxRecDepth 100000 in
theorem assign_calls (t : Int) (A1 : Option Addr) (c1 : Nat) (alive : List Bool) (A2 : Option Addr) (c2 : Nat) (prev : List Int) (w : World) (hr1 : Kd.bool.C w A1 alive.length alive) (_hc1 : alive.length ≤ c1) (hr2 : (Kd.int .i64).C w A2 prev.length prev) (hal : alive.length ≤ 1000000) :
    Calls Try.prog 23 #[.int .i64 t, .slice A1 alive.length c1, .slice A2 prev.length c2] w fun e w' => ∃ v : Value, e = .returned v ∧ (Kd.int .i64).R 3 w' w.heap.size (fun _ => True) v (AsgnM.f t alive prev) ∧ Below w.heap.size w w' := by
  have HA := Lib.hid hr1
  have HP := Lib.hid hr2
  have hpl : prev.length ≤ 9223372036854775807 := hr2.2.1
  clear hr1 hr2
  obtain ⟨T, hT⟩ : ∃ T, T = clampT t := ⟨_, rfl⟩
  have hT1 : T ≤ 1000 := by rw [hT]; exact clampT_le t
  have HT := Lib.hid hT
  clear hT
  go_enter Try.func23, Try.ntmps23
  go_upto_region 1 with fail
  go_cut [0] (fun v wx => v = .int .i64 (T : Int) ∧ wx = w.alloc (.cells #[.slice A1 alive.length c1] 25))
  case first =>
    go_wp2
    all_goals
      go_meet
      case rel =>
        refine ⟨?_, rfl⟩
        rw [HT.out]
        unfold clampT
        go_num
  case rest =>
    obtain ⟨rfl, rfl⟩ := hcut
    go_wp2
    have hb0 : Below w.heap.size w (w.alloc (.cells #[.slice A1 alive.length c1] 25)) := (Below.refl _ _).alloc (Nat.le_refl _) _
    have hA1 := Kd.C_below HA.out hb0
    have hh4 : (w.alloc (.cells #[.slice A1 alive.length c1] 25)).heap[w.heap.size]? = some (.cells #[.slice A1 alive.length c1] 25 (0, 0)) := heap_alloc_new w _
    generalize hw1 : w.alloc (.cells #[.slice A1 alive.length c1] 25) = w1 at *
    have hsz : w.heap.size < w1.heap.size := (Array.getElem?_eq_some_iff.1 hh4).1
    clear hw1
    have HA1 := Lib.hid hA1
    clear hA1
    go_loop [7, 25] (fun l i => ∃ k : Nat, k ≤ alive.length ∧ i = .int .i64 k ∧ l = .int .i64 ((alive.take k).count true : Nat)) (fun _ i => alive.length - (intOf i).toNat)
    case atStart => exact ⟨0, Nat.zero_le _, rfl, rfl⟩
    case round =>
      obtain ⟨k, hk, rfl, rfl⟩ := hrel
      by_cases hlt : k < alive.length
      · obtain ⟨ad, hAd, hca⟩ := Kd.at_bool HA1.out (k : Int) (by omega) (by omega)
        subst hAd
        simp only [Int.toNat_natCast] at hca
        have HC := Lib.hid (count_take alive k hlt)
        have hcl : (alive.take k).count true ≤ k := Nat.le_trans List.count_le_length (List.length_take_le _ _)
        have hki : ((k : Nat) : Int) < (alive.length : Int) := by omega
        generalize (alive.take k).count true = m at *
        by_cases ha : alive.getD k false = true
        · rw [show rdOf false alive (k : Int) = true from by simpa [rdOf] using ha] at hca
          have HC' : Hid ((alive.take (k + 1)).count true = m + 1) := Lib.hid (by rw [HC.out, if_pos ha])
          clear ha HC
          go_wp2
          go_round
          case rel => exact ⟨k + 1, by omega, by go_num, by rw [HC'.out]; go_num⟩
          case measure => simp [intOf]; omega
        · rw [show rdOf false alive (k : Int) = false from by simpa [rdOf] using ha] at hca
          have HC' : Hid ((alive.take (k + 1)).count true = m) := Lib.hid (by rw [HC.out, if_neg ha]; rfl)
          clear ha HC
          go_wp2
          go_round
          case rel => exact ⟨k + 1, by omega, by go_num, by rw [HC'.out]⟩
          case measure => simp [intOf]; omega
      · obtain rfl : k = alive.length := by omega
        clear hk hlt
        rw [List.take_length]
        have HL : Hid (alive.count true = living alive) := Lib.hid rfl
        have hll : alive.count true ≤ alive.length := List.count_le_length
        generalize alive.count true = L at *
        have hmk := print_make (P := Try.prog) 44 3 .i64 8 Try.underlying44 info3 (by decide) T (by omega)
        go_wp2
        have hso := So.made (T := T) hb0 (Nat.le_refl _) hh4 hT1
        obtain ⟨W2, hW2⟩ : ∃ W2, W2 = ((w1.alloc (.cells (madeCells #[.int .i64 0] T) 3)).alloc (.cells #[.slice (some ⟨w1.heap.size, 0, none⟩) T T] 44)) := ⟨_, rfl⟩
        rw [← hW2] at hso ⊢
        clear hW2 hmk
        have HSO := Lib.hid hso
        generalize w1.heap.size + 1 = b10 at *
        generalize hgo : w1.heap.size = go at *
        clear hso hgo hh4 hb0 HA1
        go_loopw [37] (fun i wr => ∃ k : Nat, k ≤ T ∧ i = .int .i64 k ∧ So w wr w.heap.size b10 go A1 c1 alive.length T (List.replicate k (-1) ++ List.replicate (T - k) 0)) (fun i _ => T - (intOf i).toNat)
        case atStart => exact ⟨0, Nat.zero_le _, rfl, by simpa using HSO.out⟩
        case round =>
          obtain ⟨k, hk, rfl, hs⟩ := hrel
          have c10 : wr.cell? ⟨b10, 0, none⟩ = some (.slice (some ⟨go, 0, none⟩) T T) := blk_cell hs.h10 0
          by_cases hlt : k < T
          · obtain ⟨co, fo⟩ := hs.cell_o (k : Int) (by omega) (by omega)
            have hn := hs.set_o (k : Int) (-1)
            simp only [Int.toNat_natCast] at co fo hn
            rw [set_fill T k hlt] at hn
            have HN := Lib.hid hn
            clear hs hn
            go_wp2
            go_roundw
            case rel => exact ⟨k + 1, by omega, by go_num, HN.out⟩
            case measure => simp [intOf]; omega
          · obtain rfl : k = T := by omega
            clear hk hlt
            rw [Nat.sub_self, List.replicate_zero, List.append_nil] at hs
            have HS := Lib.hid hs
            clear hs HSO
            have c4 : wr.cell? ⟨w.heap.size, 0, none⟩ = some (.slice A1 alive.length c1) := blk_cell HS.out.h4 0
            by_cases hL : L = 0
            · subst hL
              go_wp2
              go_ret
              refine ⟨_, rfl, ?_, HS.out.below⟩
              unfold AsgnM.f
              rw [if_pos HL.out.symm, ← HT.out]
              exact Kd.R_mono HS.out.ro (fun _ _ => trivial)
            · have hL0 : ((L : Int) == 0) = false := beq_eq_false_iff_ne.2 (by omega)
              have hmk := print_make (P := Try.prog) 44 3 .i64 8 Try.underlying44 info3 (by decide) alive.length (by omega)
              have hst := St.made HS.out (by omega)
              go_upto_region 20 with fail
              obtain ⟨W3, hW3⟩ : ∃ W3, W3 = ((wr.alloc (.cells (madeCells #[.int .i64 0] alive.length) 3)).alloc (.cells #[.slice (some ⟨wr.heap.size, 0, none⟩) alive.length alive.length] 44)) := ⟨_, rfl⟩
              rw [← hW3] at hst ⊢
              clear hW3 hmk
              have HST := Lib.hid hst
              generalize wr.heap.size + 1 = b13 at *
              generalize wr.heap.size = gh at *
              clear hst
              go_cut [60, 61] (fun m i wx => m = .int .i64 ((min k prev.length : Nat) : Int) ∧ i = .int .i64 0 ∧ wx = W3)
              case first =>
                go_wp2
                all_goals
                  go_meet
                  case rel =>
                    refine ⟨?_, rfl, rfl⟩
                    go_num
              case rest =>
                obtain ⟨rfl, rfl, rfl⟩ := hcut
                obtain ⟨M, hM⟩ : ∃ M, M = min k prev.length := ⟨_, rfl⟩
                rw [← hM]
                have hMk : M ≤ k := by omega
                have hMp : M ≤ prev.length := by omega
                have HM := Lib.hid hM
                clear hM
                have hsh : ((k : Int) + (L : Int) - 1) / (L : Int) = share k L := by unfold share; rw [Int.natCast_ediv, show ((k + L - 1 : Nat) : Int) = (k : Int) + (L : Int) - 1 from by omega]
                rw [hsh]
                clear hsh
                obtain ⟨sh, hsh⟩ : ∃ sh, sh = share k L := ⟨_, rfl⟩
                rw [← hsh]
                have HSH := Lib.hid hsh
                clear hsh
                have hst0 : St w wc w.heap.size b10 b13 go gh A1 c1 alive.length k (ph1 alive sh prev (AsgnM.start k alive.length) 0) := HST.out
                have HST0 := Lib.hid hst0
                clear hst0 HST c4 c10 HS
                go_wp2
                go_loopw [61] (fun i wr => ∃ j : Nat, j ≤ M ∧ i = .int .i64 j ∧ St w wr w.heap.size b10 b13 go gh A1 c1 alive.length k (ph1 alive sh prev (AsgnM.start k alive.length) j)) (fun i _ => M - (intOf i).toNat)
                case atStart => exact ⟨0, Nat.zero_le _, rfl, HST0.out⟩
                case round =>
                  obtain ⟨j, hj, rfl, hs⟩ := hrel
                  have c4 : wr.cell? ⟨w.heap.size, 0, none⟩ = some (.slice A1 alive.length c1) := blk_cell hs.h4 0
                  have c13 : wr.cell? ⟨b13, 0, none⟩ = some (.slice (some ⟨gh, 0, none⟩) alive.length alive.length) := blk_cell hs.h13 0
                  by_cases hlt : j < M
                  · have HX := Lib.hid (ph1_succ alive sh prev (AsgnM.start k alive.length) j)
                    have hfi := (Fine.ph1 (T := k) (n := alive.length) alive sh prev j).2.2
                    generalize ph1 alive sh prev (AsgnM.start k alive.length) j = s at *
                    obtain ⟨ad2, hAd2, hcp⟩ := Kd.at_int (Kd.C_below HP.out hs.below) (j : Int) (by omega) (by omega)
                    subst hAd2
                    simp only [Int.toNat_natCast, rd] at hcp
                    have hjp : ((j : Nat) : Int) < (prev.length : Int) := by omega
                    obtain ⟨v, hv⟩ : ∃ v, v = prev.getD j 0 := ⟨_, rfl⟩
                    rw [← hv] at hcp
                    have HV := Lib.hid hv
                    clear hv
                    by_cases q1 : 0 ≤ v
                    · by_cases q2 : v < (alive.length : Int)
                      · obtain ⟨ad1, hAd1, hca⟩ := Kd.at_bool (Kd.C_below HA.out hs.below) v q1 q2
                        subst hAd1
                        by_cases q3 : alive.getD v.toNat false = true
                        · rw [show rdOf false alive v = true from q3] at hca
                          obtain ⟨ch, _⟩ := hs.cell_h v q1 q2
                          have hf1 := hfi v.toNat
                          obtain ⟨x, hx⟩ : ∃ x, x = s.2.getD v.toNat 0 := ⟨_, rfl⟩
                          rw [← hx] at ch hf1
                          have HXX := Lib.hid hx
                          clear hx
                          by_cases q4 : x < sh
                          · have HF : Hid (step1 alive sh prev s j = give j v.toNat s) := Lib.hid (by unfold step1; rw [← HV.out, if_pos (by unfold ok1; rw [q3, ← HXX.out, decide_eq_true q1, decide_eq_true q2, decide_eq_true q4]; rfl)])
                            have HF' : Hid (ph1 alive sh prev (AsgnM.start k alive.length) (j + 1) = give j v.toNat s) := Lib.hid (by rw [HX.out]; exact HF.out)
                            have hj1 : ((j : Nat) : Int) < (k : Int) := by omega
                            have HG : Hid (give j v.toNat s = (s.1.set (j : Int).toNat v, s.2.set v.toNat (s.2.getD v.toNat 0 + 1))) := Lib.hid (by unfold give; rw [Int.toNat_natCast, Int.toNat_of_nonneg q1])
                            clear q3 hfi HX HF
                            go_wp2_with (go_at_call 28; (with_reducible refine (give_calls hs (j : Int) v (by omega) hj1 q1 q2 (by rw [← HXX.out]; exact hf1.1) (by rw [← HXX.out]; omega)).mono ?_); rintro e w4 ⟨rfl, hs4⟩)
                            have HS1 := Lib.hid hs4
                            clear hs hs4
                            go_wp2
                            go_roundw
                            case rel => exact ⟨j + 1, by omega, by go_num, by rw [HF'.out, HG.out]; exact HS1.out⟩
                            case measure => simp [intOf]; omega
                          · have hq4 : sh ≤ x := by omega
                            have HF : Hid (ph1 alive sh prev (AsgnM.start k alive.length) (j + 1) = s) := Lib.hid (by rw [HX.out]; unfold step1; rw [← HV.out, if_neg (by unfold ok1; rw [q3, ← HXX.out, decide_eq_false q4]; simp)])
                            clear HX hfi q3
                            have HS1 := Lib.hid hs
                            clear hs
                            go_wp2
                            go_roundw
                            case rel => exact ⟨j + 1, by omega, by go_num, by rw [HF.out]; exact HS1.out⟩
                            case measure => simp [intOf]; omega
                        · rw [show rdOf false alive v = false from Bool.eq_false_iff.2 q3] at hca
                          have HF : Hid (ph1 alive sh prev (AsgnM.start k alive.length) (j + 1) = s) := Lib.hid (by rw [HX.out]; unfold step1; rw [← HV.out, if_neg (by unfold ok1; rw [Bool.eq_false_iff.2 q3]; simp)])
                          clear HX hfi q3
                          have HS1 := Lib.hid hs
                          clear hs
                          go_wp2
                          go_roundw
                          case rel => exact ⟨j + 1, by omega, by go_num, by rw [HF.out]; exact HS1.out⟩
                          case measure => simp [intOf]; omega
                      · have hq2 : (alive.length : Int) ≤ v := by omega
                        have HF : Hid (ph1 alive sh prev (AsgnM.start k alive.length) (j + 1) = s) := Lib.hid (by rw [HX.out]; unfold step1; rw [← HV.out, if_neg (by unfold ok1; simp; omega)])
                        clear HX hfi
                        have HS1 := Lib.hid hs
                        clear hs
                        go_wp2
                        go_roundw
                        case rel => exact ⟨j + 1, by omega, by go_num, by rw [HF.out]; exact HS1.out⟩
                        case measure => simp [intOf]; omega
                    · have hq1 : v < 0 := by omega
                      have HF : Hid (ph1 alive sh prev (AsgnM.start k alive.length) (j + 1) = s) := Lib.hid (by rw [HX.out]; unfold step1; rw [← HV.out, if_neg (by unfold ok1; simp; omega)])
                      clear HX hfi
                      have HS1 := Lib.hid hs
                      clear hs
                      go_wp2
                      go_roundw
                      case rel => exact ⟨j + 1, by omega, by go_num, by rw [HF.out]; exact HS1.out⟩
                      case measure => simp [intOf]; omega
                  · obtain rfl : j = M := by omega
                    have c10 : wr.cell? ⟨b10, 0, none⟩ = some (.slice (some ⟨go, 0, none⟩) k k) := blk_cell hs.h10 0
                    have HS2 := Lib.hid hs
                    have HFi := Lib.hid (Fine.ph1 (T := k) (n := alive.length) alive sh prev j)
                    generalize hs0e : ph1 alive sh prev (AsgnM.start k alive.length) j = s0 at *
                    have HS0 := Lib.hid hs0e
                    clear hs hs0e
                    go_wp2
                    clear hlt hj c4 c13 c10 HST0
                    go_loopw [98] (fun i wr => ∃ q : Nat, q ≤ k ∧ i = .int .i64 q ∧ St w wr w.heap.size b10 b13 go gh A1 c1 alive.length k (ph2 alive s0 q)) (fun i _ => k - (intOf i).toNat)
                    case atStart => exact ⟨0, Nat.zero_le _, rfl, HS2.out⟩
                    case round =>
                      obtain ⟨q, hq, rfl, hs⟩ := hrel
                      have c10 : wr.cell? ⟨b10, 0, none⟩ = some (.slice (some ⟨go, 0, none⟩) k k) := blk_cell hs.h10 0
                      by_cases hlt : q < k
                      · have HX := Lib.hid (ph2_succ alive s0 q)
                        have hfi := Fine.ph2 alive HFi.out q
                        have HSQ := Lib.hid hs
                        generalize ph2 alive s0 q = s at *
                        obtain ⟨co, _⟩ := hs.cell_o (q : Int) (by omega) (by omega)
                        simp only [Int.toNat_natCast] at co
                        have hqk : ((q : Nat) : Int) < (k : Int) := by omega
                        obtain ⟨o, ho⟩ : ∃ o, o = s.1.getD q 0 := ⟨_, rfl⟩
                        rw [← ho] at co
                        have HO := Lib.hid ho
                        clear ho
                        by_cases h1 : o = -1
                        · subst h1
                          have hlive : living alive ≠ 0 := by rw [← HL.out]; exact hL
                          obtain ⟨b0, b1, _⟩ := best_ok s.2 hlive
                          have hfb := hfi.2.2 (best alive s.2 alive.length).toNat
                          obtain ⟨b, hb⟩ : ∃ b, b = best alive s.2 alive.length := ⟨_, rfl⟩
                          have HF : Hid (ph2 alive s0 (q + 1) = (s.1.set (q : Int).toNat b, s.2.set b.toNat (s.2.getD b.toNat 0 + 1))) := Lib.hid (by rw [HX.out]; unfold step2; rw [← HO.out, if_pos rfl, ← hb]; unfold give; rw [Int.toNat_natCast, Int.toNat_of_nonneg (by rw [hb]; exact b0)])
                          rw [← hb] at b0 b1 hfb
                          have HB := Lib.hid hb
                          have hfb1 := hfb.1
                          have hfb2 := hfb.2
                          clear hb HX hfi hfb hs
                          go_wp2_with (go_at_call 29; (with_reducible refine (least_calls alive HSQ.out (Kd.C_below HA.out HSQ.out.below) (by omega)).mono ?_); rintro e w4 ⟨rfl, hd4⟩)
                          rw [← HB.out]
                          have hs4 := HSQ.out.step hd4.below
                          go_wp2_with (go_at_call 28; (with_reducible refine (give_calls hs4 (q : Int) b (by omega) hqk b0 b1 hfb1 (by omega)).mono ?_); rintro e w5 ⟨rfl, hs5⟩)
                          have HS5 := Lib.hid hs5
                          clear hs5 hs4
                          go_wp2
                          go_roundw
                          case rel => exact ⟨q + 1, by omega, by go_num, by rw [HF.out]; exact HS5.out⟩
                          case measure => simp [intOf]; omega
                        · have h1b : (o == -1) = false := beq_eq_false_iff_ne.2 h1
                          have HF : Hid (ph2 alive s0 (q + 1) = s) := Lib.hid (by rw [HX.out]; unfold step2; rw [← HO.out, if_neg h1])
                          clear HX hfi hs
                          go_wp2
                          go_roundw
                          case rel => exact ⟨q + 1, by omega, by go_num, by rw [HF.out]; exact HSQ.out⟩
                          case measure => simp [intOf]; omega
                      · obtain rfl : q = k := by omega
                        have HSQ := Lib.hid hs
                        clear hs
                        go_wp2
                        go_ret
                        refine ⟨_, rfl, ?_, HSQ.out.below⟩
                        have hlive : living alive ≠ 0 := by rw [← HL.out]; exact hL
                        have hf : AsgnM.f t alive prev = (ph2 alive s0 q).1 := by
                          unfold AsgnM.f
                          rw [if_neg hlive, ← HT.out, ← HL.out, ← HSH.out, ← HM.out, HS0.out]
                        rw [hf]
                        exact Kd.R_mono HSQ.out.ro (fun _ _ => trivial)
end Go.Proofs.Ytjngkndiokfibaa.AsgnWalk
