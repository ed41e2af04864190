import Derived.Test.YtanhibhcmfmeeaaAgUs
/- A vertex with a table of sums: Apply, Value. -/
namespace Go.Proofs.Ytanhibhcmfmeeaa.Ag
open Go.RowKit Go.Proofs.YtanhibhcmfmeeaaW.PrintWords Go.Proofs.YtanhibhcmfmeeaaW.PrintMore Go.Proofs.Ytanhibhcmfmeeaa.Cut Go.Proofs.Ytanhibhcmfmeeaa.Fr Go.Proofs.Ytanhibhcmfmeeaa.SlK Go.Proofs.Ytanhibhcmfmeeaa.Ex
/-- A vertex with a table: at block a, the table at block s, its row v. -/
structure AgK (w0 w : World) (a s : Nat) (n : Int) (x : Ex) (l : Kv.L2) (v : Value) : Prop where
  vx : AgV w0 w a 6 n x (ifKv s)
  tb : Kv.Own w w0.heap.size s 1024 l v
theorem AgK.below {w0 w w' : World} {a s : Nat} {n : Int} {x : Ex} {l : Kv.L2} {v : Value} (h : AgK w0 w a s n x l v) (hb : Below w.heap.size w w') : AgK w0 w' a s n x l v := ⟨h.vx.below hb, h.tb.below hb⟩
theorem AgK.ne {w0 w : World} {a s : Nat} {n : Int} {x : Ex} {l : Kv.L2} {v : Value} (h : AgK w0 w a s n x l v) : ¬ Kv.F s v a := by
  obtain ⟨_, _, _, _, _, hr, _⟩ := h.vx.row
  rintro (e | e)
  · have := h.tb.row
    rw [← e, hr] at this
    injection this with this
    injection this with _ this
    exact absurd this (by decide)
  · obtain ⟨cells, hc⟩ := own_typed h.tb.pairs a e.symm
    rw [hr] at hc
    injection hc with hc
    injection hc with _ hc
    exact absurd hc (by decide)
/-- Blocks of other types are none of its table's. -/
theorem AgK.far {w0 w : World} {a s : Nat} {n : Int} {x : Ex} {l : Kv.L2} {v : Value} (h : AgK w0 w a s n x l v) {k : Nat} {cs : Array Value} {t : TypeId} {fr : Nat × Nat} (hk : w.heap[k]? = some (.cells cs t fr)) (h1 : t ≠ 100) (h2 : t ≠ 97) : ¬ Kv.F s v k := by
  rintro (e | e)
  · have := h.tb.row
    rw [← e, hk] at this
    injection this with this
    injection this with _ this
    exact h1 this
  · obtain ⟨cells, hc⟩ := own_typed h.tb.pairs k e.symm
    rw [hk] at hc
    injection hc with hc
    injection hc with _ hc
    exact h2 hc
def ApK (w0 w : World) (a s : Nat) (n : Int) (x : Ex) (l : Kv.L2) (v : Value) (key r time : Int) (e : Ending) (w' : World) : Prop :=
  ∃ sl v', e = .returned (.tuple #[recV key r time, sl, .int .i64 0]) ∧ Row5 w' w.heap.size sl [(key, 0, 0, r, false)] ∧ AgK w0 w' a s n x (Kv.putL key r l) v' ∧ Mv w w' (Kv.F s v) (Kv.F s v')
theorem apply_kv {w0 w : World} {a s : Nat} {n : Int} {x : Ex} {l : Kv.L2} {v : Value} (h : AgK w0 w a s n x l v) (key val time r : Int) (ht : mayT time = true) (he : evalF ⟨key, val, time, (Kv.look l key).getD 0⟩ x = (r, 0)) (hf : Kv.look l key = none → l.length < 1024) :
    Calls Try.prog 12 #[.pointer (some ⟨a, 0, none⟩), recV key val time] w (ApK w0 w a s n x l v key r time) := by
  have hne := h.ne
  refine (apply_put h.vx key val time _ r ht (fun W hW => gathered_kv h.vx h.tb key val time W hW) he (Kv.F s v) (fun k hk => ⟨(h.tb.lt k hk).2, fun e => hne (e ▸ hk)⟩) _ (fun V hV => put_kv h.vx h.tb key val time r (fun hl => by have := hf hl; omega) rfl V hV)).mono ?_
  rintro e w' ⟨V, w1, sl, er, chs, Ft', hV, hVs, hR5, _, ⟨rfl, rfl, v', hO, hM⟩, hM2, rfl⟩
  have hsz : w.heap.size ≤ V.heap.size := by omega
  have hF' : ∀ k, Kv.F s v' k → k ≠ w.heap.size ∧ k ≠ w.heap.size + 1 := fun k hk => by
    rcases hM.new k hk with e | e
    · have := (h.tb.lt k e).2; exact ⟨by omega, by omega⟩
    · exact ⟨by omega, by omega⟩
  have hMw : Mv w w' (Kv.F s v) (Kv.F s v') := by
    have h1 := (Mv.of_below (Kv.F s v) hV).trans hM
    refine ⟨hM2.os.trans h1.os, hM2.tape.trans h1.tape, hM2.output.trans h1.output, Nat.le_trans h1.size hM2.size, fun k hk hs => ?_, h1.new⟩
    exact (hM2.keep k (Nat.lt_of_lt_of_le hk h1.size) (by omega)).trans (h1.keep k hk hs)
  refine ⟨sl, v', rfl, ?_, ⟨h.vx.mv hMw (fun k hk => (h.tb.lt k hk).1) hne, hO.kept fun k hk => hM2.keep k (hO.lt k hk).2 (by have := hF' k hk; omega)⟩, hMw⟩
  exact Kd.R_lower (Kd.R_mono (Kd.R_move (Kd.R_bound hR5) fun k hk => hM2.keep k (by have := hk.2.2.1; omega) (by have := hk.2.1; omega)) fun _ _ => trivial) hsz
theorem value_k {w0 w : World} {a s : Nat} {n : Int} {x : Ex} {l : Kv.L2} {v : Value} (h : AgK w0 w a s n x l v) (key : Int) :
    Calls Try.prog 13 #[.pointer (some ⟨a, 0, none⟩), .int .i64 key] w fun e w' => e = .returned (.int .i64 ((Kv.look l key).getD 0)) ∧ Below w.heap.size w w' := value_kv h.vx h.tb key
end Go.Proofs.Ytanhibhcmfmeeaa.Ag
