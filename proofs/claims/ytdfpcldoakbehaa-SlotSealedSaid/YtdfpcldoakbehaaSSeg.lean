import Derived.Test.YtdfpcldoakbehaaDiskM
import Derived.Test.YtdfpcldoakbehaaCrcScan
import Derived.Deep.RegionWith
import Derived.OwnWalk
/- A row of payloads in memory: Sync, Len. -/
namespace Go.Proofs.Ytdfpcldoakbehaa.Slot
open Go.RowKit Go.Proofs.YtdfpcldoakbehaaW.PrintWords Go.Proofs.YtdfpcldoakbehaaW.PrintLast Go.Proofs.YtdfpcldoakbehaaW.PrintMore Go.Proofs.Ytdfpcldoakbehaa.Row Go.Proofs.Ytdfpcldoakbehaa.Cut Go.Proofs.Ytdfpcldoakbehaa.DiskM
/-- What stays: all blocks of w but those of S; what is S' behind it was S, or is new. -/
structure Stp (w w' : World) (S S' : Nat → Prop) : Prop where
  size : w.heap.size ≤ w'.heap.size
  keep : ∀ k, k < w.heap.size → ¬ S k → w'.heap[k]? = w.heap[k]?
  new : ∀ k, S' k → S k ∨ w.heap.size ≤ k
theorem Stp.refl (w : World) (S : Nat → Prop) : Stp w w S S := ⟨Nat.le_refl _, fun _ _ _ => rfl, fun _ h => .inl h⟩
theorem Stp.trans {w1 w2 w3 : World} {S1 S2 S3 : Nat → Prop} (h : Stp w1 w2 S1 S2) (g : Stp w2 w3 S2 S3) : Stp w1 w3 S1 S3 := by
  refine ⟨Nat.le_trans h.size g.size, fun k hk hs => ?_, fun k hk => ?_⟩
  · have hs2 : ¬ S2 k := fun e => (h.new k e).elim hs (fun e' => by omega)
    exact (g.keep k (Nat.lt_of_lt_of_le hk h.size) hs2).trans (h.keep k hk hs)
  · rcases g.new k hk with e | e
    · exact h.new k e
    · exact .inr (Nat.le_trans h.size e)
theorem Stp.of_below {w w' : World} (S : Nat → Prop) (hb : Below w.heap.size w w') : Stp w w' S S := ⟨hb.size, fun k hk _ => hb.block k hk, fun _ h => .inl h⟩
theorem Stp.mono {w w' : World} {S S' T T' : Nat → Prop} (h : Stp w w' S S') (h1 : ∀ k, S k → T k) (h2 : ∀ k, T' k → T k ∨ S' k) : Stp w w' T T' :=
  ⟨h.size, fun k hk hs => h.keep k hk fun e => hs (h1 k e), fun k hk => (h2 k hk).elim .inl fun e => (h.new k e).imp (h1 k) id⟩
/-- The row of payloads: its blocks. -/
def SS (sg gd : Nat) (vr vd : Value) (k : Nat) : Prop := k = gd ∨ some k = vd.ownBlock ∨ k = sg ∨ some k = vr.ownBlock
structure Sg (w0 w : World) (sg gd : Nat) (vr vd : Value) (room : Int) (bs : List Int) (safe : Nat) : Prop where
  disk : Dk w0 w gd vd room bs safe
  low : w0.heap.size ≤ sg
  blk : ∃ t, w.heap[sg]? = some (.cells #[.iface 25 (.pointer (some ⟨gd, 0, none⟩)), vr, .int .i64 t] 75 (0, 0))
  row : ∃ xs, Row w w0.heap.size 23 vr xs ∧ xs.length ≤ bs.length ∧ ∀ u ∈ xs, u.oneCell' = true
theorem fr_stp {w w' : World} {sg gd : Nat} {vr vd vd' : Value} (h : Fr w w' gd vd vd') : Stp w w' (SS sg gd vr vd) (SS sg gd vr vd') := by
  obtain ⟨h1, h2, h3⟩ := h
  refine ⟨h1, fun k hk hs => h2 k hk (fun e => hs (.inl e)) (fun e => hs (.inr (.inl e))), fun k hk => ?_⟩
  rcases hk with e | e | e | e
  · exact .inl (.inl e)
  · rcases h3 with q | q | ⟨b, q, hb⟩
    · rw [q] at e; cases e
    · exact .inl (.inr (.inl (e.trans q)))
    · rw [q] at e; injection e with e; exact .inr (by omega)
  · exact .inl (.inr (.inr (.inl e)))
  · exact .inl (.inr (.inr (.inr e)))
section
variable {w0 w w' : World} {sg gd : Nat} {vr vd vd' : Value} {room : Int} {bs bs' : List Int} {safe safe' : Nat}
/-- The disk was turned alone. -/
theorem Sg.turn (h : Sg w0 w sg gd vr vd room bs safe) (D : Dk w0 w' gd vd' room bs' safe') (hf : Fr w w' gd vd vd') (hl : bs.length ≤ bs'.length) : Sg w0 w' sg gd vr vd' room bs' safe' := by
  obtain ⟨t, hb⟩ := h.blk
  obtain ⟨xs, hr, hx, h1⟩ := h.row
  have hne : ∀ {k : Nat} {cs : Array Value} {ty : TypeId}, w.heap[k]? = some (.cells cs ty (0, 0)) → ty ≠ 51 → ty ≠ 5 → w'.heap[k]? = w.heap[k]? := by
    intro k cs ty hk h1 h2
    refine hf.2.1 k (Array.getElem?_eq_some_iff.1 hk).1 (blk_ne hk h.disk.blk h1) fun e => ?_
    obtain ⟨_, _, cur, hc⟩ := h.disk.row.lt k e.symm
    rw [hk] at hc
    injection hc with hc
    injection hc with _ hc
    exact h2 hc
  refine ⟨D, h.low, ⟨t, (hne hb (by decide) (by decide)).trans hb⟩, ⟨xs, hr.move fun k hk => ?_, Nat.le_trans hx hl, h1⟩⟩
  obtain ⟨_, _, cur, hc⟩ := hr.lt k hk
  exact hne hc (by decide) (by decide)
theorem Sg.row_turn (h : Sg w0 w sg gd vr vd room bs safe) (hf : Fr w w' gd vd vd') {xs : List Value} (hr : Row w w0.heap.size 23 vr xs) : Row w' w0.heap.size 23 vr xs := hr.move fun k hk => by
  obtain ⟨_, hlt, cur, hc⟩ := hr.lt k hk
  refine hf.2.1 k hlt (blk_ne hc h.disk.blk (by decide)) fun e => ?_
  obtain ⟨_, _, cur2, hc2⟩ := h.disk.row.lt k e.symm
  exact blk_ne hc hc2 (by decide) rfl
theorem Sg.below (h : Sg w0 w sg gd vr vd room bs safe) (hb : Below w.heap.size w w') : Sg w0 w' sg gd vr vd room bs safe := by
  obtain ⟨t, hk⟩ := h.blk
  obtain ⟨xs, hr, hx, h1⟩ := h.row
  exact ⟨h.disk.step hb, h.low, ⟨t, (hb.block _ (Array.getElem?_eq_some_iff.1 hk).1).trans hk⟩, ⟨xs, hr.below hb, hx, h1⟩⟩
end
theorem meth_sync (n : Nat) (a : Addr) (w : World) : (method (n + 1) 25 (.pointer (some a)) "Sync").run Try.prog w = .ok (30, .pointer (some a)) w := by kernel_rfl
theorem meth_append (n : Nat) (a : Addr) (w : World) : (method (n + 1) 25 (.pointer (some a)) "Append").run Try.prog w = .ok (104, .pointer (some a)) w := by kernel_rfl
theorem meth_bytes (n : Nat) (a : Addr) (w : World) : (method (n + 1) 25 (.pointer (some a)) "Bytes").run Try.prog w = .ok (12, .pointer (some a)) w := by kernel_rfl
theorem meth_cut (n : Nat) (a : Addr) (w : World) : (method (n + 1) 25 (.pointer (some a)) "Cut").run Try.prog w = .ok (29, .pointer (some a)) w := by kernel_rfl
set_option maxRecDepth 100000 in
set_option maxHeartbeats 2000000 in
theorem ssync_calls {w0 w : World} {sg gd : Nat} {vr vd : Value} {room : Int} {bs : List Int} {safe : Nat} (h : Sg w0 w sg gd vr vd room bs safe) :
    Calls Try.prog 37 #[.pointer (some ⟨sg, 0, none⟩)] w fun e w' => e = .returned (.tuple #[]) ∧ Sg w0 w' sg gd vr vd room bs bs.length ∧ Stp w w' (SS sg gd vr vd) (SS sg gd vr vd) := by
  obtain ⟨t, hb⟩ := h.blk
  have c0 := (blk_cell hb 0).trans rfl
  have HS := Lib.hid h
  have hm := meth_sync
  clear h hb
  go_enter Try.func37, Try.ntmps37
  go_wp2_with fail
  refine (sync_calls HS.out.disk).mono ?_
  rintro e w' ⟨rfl, D, F⟩
  have HF := Lib.hid (And.intro (HS.out.turn D F (Nat.le_refl _)) (fr_stp (sg := sg) (vr := vr) F))
  clear D F c0 hm
  go_wp2_with fail
  go_end0
  exact ⟨rfl, HF.out⟩
end Go.Proofs.Ytdfpcldoakbehaa.Slot
