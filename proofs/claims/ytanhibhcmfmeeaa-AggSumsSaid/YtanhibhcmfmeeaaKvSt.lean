import Derived.Test.YtanhibhcmfmeeaaKvBs
import Derived.StillTailTactics
import Derived.RegionTactic
import Derived.BigRegion
/- A store of pairs in memory: New, find, Get. -/
namespace Go.Proofs.Ytanhibhcmfmeeaa.Kv
open Go.RowKit Go.Proofs.YtanhibhcmfmeeaaW.PrintWords Go.Proofs.Ytanhibhcmfmeeaa.Cut Go.Proofs.Ytanhibhcmfmeeaa.Fr Go.Proofs.Ytanhibhcmfmeeaa.SlK
/-- A store lies at block s; its row is v. -/
structure Own (w : World) (B s : Nat) (room : Int) (l : L2) (v : Value) : Prop where
  row : w.heap[s]? = some (.cells #[.int .i64 room, v] 100 (0, 0))
  pairs : w.ownsRow B 97 2 v l.length (l.flatMap enc2)
  sorted : Sorted l
  rng : 1 ≤ room ∧ room ≤ 1024
  fits : (l.length : Int) ≤ room
  base : B ≤ s
/-- Its blocks. -/
def F (s : Nat) (v : Value) (k : Nat) : Prop := k = s ∨ some k = v.ownBlock
theorem Own.cells {w : World} {B s : Nat} {room : Int} {l : L2} {v : Value} (h : Own w B s room l v) : w.cell? ⟨s, 0, none⟩ = some (.int .i64 room) ∧ w.cell? ⟨s, 1, none⟩ = some v := ⟨(blk_cell h.row 0).trans rfl, (blk_cell h.row 1).trans rfl⟩
theorem Own.lt {w : World} {B s : Nat} {room : Int} {l : L2} {v : Value} (h : Own w B s room l v) (k : Nat) (hk : F s v k) : B ≤ k ∧ k < w.heap.size := by
  rcases hk with rfl | hk
  · exact ⟨h.base, (Array.getElem?_eq_some_iff.1 h.row).1⟩
  · exact ⟨own_base h.pairs k hk.symm, own_lt h.pairs k hk.symm⟩
theorem Own.ne {w : World} {B s : Nat} {room : Int} {l : L2} {v : Value} (h : Own w B s room l v) : some s ≠ v.ownBlock := by
  intro e
  obtain ⟨cells, hc⟩ := own_typed h.pairs s e.symm
  rw [h.row] at hc
  injection hc with hc
  injection hc with _ hc
  exact absurd hc (by decide)
/-- Its blocks are as they were. -/
theorem Own.kept {w w' : World} {B s : Nat} {room : Int} {l : L2} {v : Value} (h : Own w B s room l v) (hk : ∀ k, F s v k → w'.heap[k]? = w.heap[k]?) : Own w' B s room l v :=
  ⟨(hk s (.inl rfl)).trans h.row, own_move h.pairs fun k e => hk k (.inr e.symm), h.sorted, h.rng, h.fits, h.base⟩
theorem Own.mv {w w' : World} {B s : Nat} {room : Int} {l : L2} {v : Value} (h : Own w B s room l v) {G G' : Nat → Prop} (hm : Mv w w' G G') (hd : ∀ k, F s v k → ¬ G k) : Own w' B s room l v := h.kept fun k hk => hm.keep k (h.lt k hk).2 (hd k hk)
theorem Own.below {w w' : World} {B s : Nat} {room : Int} {l : L2} {v : Value} (h : Own w B s room l v) (hb : Below w.heap.size w w') : Own w' B s room l v := h.kept fun k hk => hb.block k (h.lt k hk).2
set_option maxHeartbeats 1000000 in
theorem new_calls (room : Int) (hr : 1 ≤ room ∧ room ≤ 1024) (B : Nat) (w : World) (hB : B ≤ w.heap.size) :
    Calls Try.prog 31 #[.int .i64 room] w fun e w' => e = .returned (.tuple #[.pointer (some ⟨w.heap.size, 0, none⟩), .int .i64 0]) ∧ Own w' B w.heap.size room [] (.slice none 0 0) ∧ Below w.heap.size w w' := by
  obtain ⟨r1, r2⟩ := hr
  have n1 : ¬ room < 1 := by omega
  have n2 : ¬ 1024 < room := by omega
  have HB := Lib.hid hB
  clear hB
  go_enter Try.func31, Try.ntmps31
  go_wp2
  go_ret2
  exact ⟨rfl, ⟨(Go.MapKept.heap_alloc w _).1, own_nil _ _ _ _, List.Pairwise.nil, ⟨r1, r2⟩, by simp; omega, HB.out⟩, below_alloc (Below.refl _ _) _⟩
set_option maxHeartbeats 1000000 in
theorem find_calls {w : World} {B s : Nat} {room : Int} {l : L2} {v : Value} (h : Own w B s room l v) (key : Int) :
    Calls Try.prog 41 #[.pointer (some ⟨s, 0, none⟩), .int .i64 key] w fun e w' => e = .returned (.tuple #[.int .i64 (idx key l), .bool (look l key).isSome]) ∧ Below w.heap.size w w' := by
  have hb := bs_calls h.pairs h.sorted (by have := h.fits; have := h.rng; omega) key
  obtain ⟨c0, c1⟩ := h.cells
  generalize (idx key l : Int) = i at hb ⊢
  generalize (look l key).isSome = o at hb ⊢
  clear h
  go_enter Try.func41, Try.ntmps41
  go_wp2_with ((with_reducible refine hb.mono ?_); rintro e w1 ⟨rfl, hB1⟩)
  go_ret2
  exact ⟨rfl, hB1⟩
set_option maxHeartbeats 1000000 in
theorem find_nil (key : Int) (w : World) : Calls Try.prog 41 #[.pointer none, .int .i64 key] w fun e w' => e = .returned (.tuple #[.int .i64 0, .bool false]) ∧ w' = w := by
  go_enter Try.func41, Try.ntmps41
  go_wp2
  go_ret2
  exact ⟨rfl, rfl⟩
set_option maxHeartbeats 1000000 in
theorem get_calls {w : World} {B s : Nat} {room : Int} {l : L2} {v : Value} (h : Own w B s room l v) (key : Int) :
    Calls Try.prog 26 #[.pointer (some ⟨s, 0, none⟩), .int .i64 key] w fun e w' => e = .returned (.tuple #[.int .i64 ((look l key).getD 0), .bool (look l key).isSome]) ∧ Below w.heap.size w w' := by
  have hf := find_calls h key
  have hlk := look_idx (key := key) h.sorted
  have HO := Lib.hid h
  have hin := idx_le key l
  cases hl : look l key with
  | none =>
    rw [hl] at hf
    clear h hlk hin
    go_enter Try.func26, Try.ntmps26
    go_wp2_with ((with_reducible refine hf.mono ?_); rintro e w1 ⟨rfl, hB1⟩)
    go_ret2
    exact ⟨rfl, hB1⟩
  | some x =>
    rw [hl] at hf hlk
    obtain ⟨p, hp, hpx⟩ := Option.bind_eq_some_iff.1 hlk.symm
    have hpx : p.2 = x := by
      split at hpx
      · exact Option.some.inj hpx
      · cases hpx
    have hil := (List.getElem?_eq_some_iff.1 hp).1
    have hl24 : l.length ≤ 1024 := by have := h.fits; have := h.rng; omega
    obtain ⟨A, c, hv, hc, hcl⟩ := row_cells h.pairs
    obtain ⟨g, rfl, hcell⟩ := hcl _ p hp
    subst hv
    have HC := Lib.hid hcell
    generalize idx key l = i at hf HC hil
    obtain ⟨n, hn⟩ : ∃ n, n = l.length := ⟨_, rfl⟩
    rw [← hn] at hil hc hl24 HO
    have hii : (i : Int) < (n : Int) := by omega
    clear h hlk hin hcl hcell hp hl hn
    subst hpx
    go_enter Try.func26, Try.ntmps26
    go_wp2_with fail
    refine hf.mono ?_
    rintro e w1 ⟨rfl, hB1⟩
    obtain ⟨c0, c1⟩ := (HO.out.below hB1).cells
    obtain ⟨d0, d1⟩ := HC.out w1 hB1
    have HB := Lib.hid hB1
    clear hB1 hf
    go_wp2_with fail
    go_ret2
    exact ⟨rfl, HB.out⟩
set_option maxHeartbeats 1000000 in
theorem get_nil (key : Int) (w : World) : Calls Try.prog 26 #[.pointer none, .int .i64 key] w fun e w' => e = .returned (.tuple #[.int .i64 0, .bool false]) ∧ w' = w := by
  have hf := find_nil key w
  go_enter Try.func26, Try.ntmps26
  go_wp2_with ((with_reducible refine hf.mono ?_); rintro e w1 ⟨rfl, rfl⟩)
  go_ret2
  exact ⟨rfl, rfl⟩
end Go.Proofs.Ytanhibhcmfmeeaa.Kv
