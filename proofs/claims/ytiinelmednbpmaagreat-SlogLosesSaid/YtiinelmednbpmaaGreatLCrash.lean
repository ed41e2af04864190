import Derived.Test.YtiinelmednbpmaaGreatLAgain
/- The walks of Crash and Lose. -/
namespace Go.Proofs.YtiinelmednbpmaaGreat.Slog
open Go.RowKit Go.Maps Go.Proofs.YtiinelmednbpmaaGreatW.PrintWords Go.Proofs.YtiinelmednbpmaaGreatW.PrintMore Go.Proofs.YtiinelmednbpmaaGreat.Row Go.Proofs.YtiinelmednbpmaaGreat.Cut Go.Proofs.YtiinelmednbpmaaGreat.DiskM Go.Proofs.YtiinelmednbpmaaGreat.Quor Go.Proofs.YtiinelmednbpmaaGreat.Slot
open Go.Proofs.YtiinelmednbpmaaGreat.Crc (KB scanF)
set_option maxHeartbeats 1000000 in
theorem clo_lose {w0 w : World} {x : LB} {room : Int} {s : LS} (L : Lg w0 w x room s) {i : Nat} {n : NB} (hn : x.ns[i]? = some n) :
    Calls Tryz.prog 34 (dptr n :: []).toArray w fun e w1 => e = .returned (.tuple #[]) ∧ ∃ v' safe, Dk w0 w1 n.gd v' room [] safe ∧ Fr w w1 n.gd n.vd v' := by
  obtain ⟨t, ht, N⟩ := L.at_ hn
  have hc : Calls Tryz.prog 35 #[dptr n] w fun e w' => e = .returned (.tuple #[]) ∧ ∃ v', Dk w0 w' n.gd v' room [] 0 ∧ Fr w w' n.gd n.vd v' := lose_calls N.disk
  clear L hn ht N
  go_enter Tryz.func34, Tryz.ntmps34
  go_wp2_with fail
  refine hc.mono ?_
  rintro e w' ⟨rfl, v', hd, hf⟩
  go_wp2_with fail
  go_end0
  exact ⟨rfl, v', _, hd, hf⟩
set_option maxHeartbeats 1000000 in
theorem clo_crash {w0 w : World} {x : LB} {room : Int} {s : LS} (L : Lg w0 w x room s) {i : Nat} {n : NB} (hn : x.ns[i]? = some n) {t : S3} (ht : s.st[i]? = some t) (keep turn : Int) (a b : Nat) (ha : w.cell? ⟨a, 0, none⟩ = some (.int .i64 keep)) (hb : w.cell? ⟨b, 0, none⟩ = some (.int .i64 turn)) :
    Calls Tryz.prog 36 (dptr n :: [.pointer (some ⟨a, 0, none⟩), .pointer (some ⟨b, 0, none⟩)]).toArray w fun e w1 => e = .returned (.tuple #[]) ∧ ∃ v' safe, Dk w0 w1 n.gd v' room t.2.2 safe ∧ Fr w w1 n.gd n.vd v' := by
  obtain ⟨t', ht', N⟩ := L.at_ hn
  obtain rfl : t' = t := by rw [ht] at ht'; exact (Option.some.inj ht').symm
  have hc0 := crash_calls N.disk keep turn
  rw [crash_synced] at hc0
  have hc : Calls Tryz.prog 37 #[dptr n, .int .i64 keep, .int .i64 turn] w fun e w' => e = .returned (.tuple #[]) ∧ ∃ v', Dk w0 w' n.gd v' room t'.2.2 t'.2.2.length ∧ Fr w w' n.gd n.vd v' := hc0
  clear L hn ht ht' N hc0
  go_enter Tryz.func36, Tryz.ntmps36
  go_wp2_with fail
  refine hc.mono ?_
  rintro e w' ⟨rfl, v', hd, hf⟩
  go_wp2_with fail
  go_end0
  exact ⟨rfl, v', _, hd, hf⟩
def AnyP (w0 w : World) (x : LB) (room : Int) (s : LS) (r : Int) (e : Ending) (w' : World) : Prop := ∃ x', e = .returned (.int .i64 r) ∧ x'.lg = x.lg ∧ Lg w0 w' x' room s ∧ Stp w w' (LF x) (LF x')
set_option maxHeartbeats 4000000 in
theorem lcrash_calls {w0 w : World} {x : LB} {room : Int} {s : LS} (L : Lg w0 w x room s) {i : Nat} (hi : i < s.st.length) (keep turn : Int) (hinv : ∀ t ∈ s.st, Inv t) :
    Calls Tryz.prog 18 #[.pointer (some ⟨x.lg, 0, none⟩), .int .i64 i, .int .i64 keep, .int .i64 turn] w (AnyP w0 w x room s 0) := by
  have hi' : i < x.ns.length := by rw [← L.len]; exact hi
  obtain ⟨n, hn⟩ : ∃ n, x.ns[i]? = some n := ⟨_, List.getElem?_eq_getElem hi'⟩
  obtain ⟨t, ht⟩ : ∃ t, s.st[i]? = some t := ⟨_, List.getElem?_eq_getElem hi⟩
  obtain ⟨w2, hw2⟩ : ∃ w2, w2 = (w.alloc (.cells #[.int .i64 keep] 3)).alloc (.cells #[.int .i64 turn] 3) := ⟨_, rfl⟩
  have hb : Below w.heap.size w w2 := by rw [hw2]; exact ((Below.refl _ _).alloc (Nat.le_refl _) _).alloc (by simp) _
  have L2 := L.below hb
  have ha : w2.cell? ⟨w.heap.size, 0, none⟩ = some (.int .i64 keep) := by
    rw [hw2]
    exact (blk_cell ((heap_alloc_old _ _ (by simp)).trans (heap_alloc_new w _)) 0).trans rfl
  have hb1 : w2.cell? ⟨w.heap.size + 1, 0, none⟩ = some (.int .i64 turn) := by
    rw [hw2]
    have := heap_alloc_new (w.alloc (.cells #[.int .i64 keep] 3)) (.cells #[.int .i64 turn] 3)
    rw [show (w.alloc (.cells #[.int .i64 keep] 3)).heap.size = w.heap.size + 1 by simp] at this
    exact (blk_cell this 0).trans rfl
  have hst : { s with st := s.st.set i t } = s := by
    have : s.st.set i t = s.st := by
      apply List.ext_getElem?
      intro j
      rw [List.getElem?_set]
      by_cases e : i = j
      · subst e; rw [if_pos rfl, if_pos hi, ht]
      · rw [if_neg e]
    rw [this]
  have hc := again_calls L2 hn 36 _ (.inl rfl) t.2.2 t (Inv.open_ (hinv t (List.mem_of_getElem? ht))) (clo_crash L2 hn ht keep turn _ _ ha hb1)
  rw [hst] at hc
  have HB := Lib.hid (And.intro hb L)
  clear L L2 hi hi' hn ht hinv ha hb1 hst hb
  go_enter Tryz.func18, Tryz.ntmps18
  go_wp2_with fail
  rw [← hw2]
  refine hc.mono ?_
  rintro e w' ⟨x', rfl, hx, L', T⟩
  have HT := Lib.hid (And.intro L' T)
  clear L' T hc
  go_wp2_with fail
  go_ret
  exact ⟨x', rfl, hx, HT.out.1, ⟨Nat.le_trans HB.out.1.size HT.out.2.size, fun k hk hs => (HT.out.2.keep k (Nat.lt_of_lt_of_le hk HB.out.1.size) hs).trans (HB.out.1.block k hk), fun k hk => (HT.out.2.new k hk).imp id (Nat.le_trans HB.out.1.size)⟩⟩
theorem llose_calls {w0 w : World} {x : LB} {room : Int} {s : LS} (L : Lg w0 w x room s) {i : Nat} (hi : i < s.st.length) :
    Calls Tryz.prog 16 #[.pointer (some ⟨x.lg, 0, none⟩), .int .i64 i] w (AnyP w0 w x room { s with st := s.st.set i (0, [], []) } 0) := by
  have hi' : i < x.ns.length := by rw [← L.len]; exact hi
  obtain ⟨n, hn⟩ : ∃ n, x.ns[i]? = some n := ⟨_, List.getElem?_eq_getElem hi'⟩
  have hc := again_calls L hn 34 _ (.inr rfl) [] (0, [], []) (by rw [scan_nil]; rfl) (clo_lose L hn)
  clear L hi hi' hn
  go_enter Tryz.func16, Tryz.ntmps16
  go_wp2_with fail
  refine hc.mono ?_
  rintro e w' ⟨x', rfl, hx, L', T⟩
  have HT := Lib.hid (And.intro L' T)
  clear L' T hc
  go_wp2_with fail
  go_ret
  exact ⟨x', rfl, hx, HT.out⟩
end Go.Proofs.YtiinelmednbpmaaGreat.Slog
