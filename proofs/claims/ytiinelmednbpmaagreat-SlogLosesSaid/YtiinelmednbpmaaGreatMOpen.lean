import Derived.Test.YtiinelmednbpmaaGreatMLog
import Derived.Test.YtiinelmednbpmaaGreatMQuor
import Derived.RegionTactic
/- Replies, as a closure gathers them; the closure that Open hands to ask. -/
namespace Go.Proofs.YtiinelmednbpmaaGreat.Slog
open Go.RowKit Go.Maps Go.Proofs.YtiinelmednbpmaaGreatW.PrintWords Go.Proofs.YtiinelmednbpmaaGreatW.PrintMore Go.Proofs.YtiinelmednbpmaaGreat.Row Go.Proofs.YtiinelmednbpmaaGreat.Cut Go.Proofs.YtiinelmednbpmaaGreat.DiskM Go.Proofs.YtiinelmednbpmaaGreat.Quor Go.Proofs.YtiinelmednbpmaaGreat.Slot
theorem C_K4 {w : World} {A : Option Addr} {n : Nat} {zs : List C4} (hC : K4.C w A n zs) (hr : ∀ z ∈ zs, RdB w z) : KC.C w A n (zs.map C4.c3) := by
  obtain ⟨h1, h2, h3⟩ := hC
  refine ⟨by rw [List.length_map]; exact h1, h2, fun hn => ?_⟩
  obtain ⟨ad, hA, hc⟩ := h3 hn
  refine ⟨ad, hA, fun j p hj => ?_⟩
  rw [List.getElem?_map] at hj
  obtain ⟨z, hz, rfl⟩ := Option.map_eq_some_iff.1 hj
  obtain ⟨cs, k1, k2, k3⟩ := hc j z hz
  obtain rfl : cs = enc4 z := k2
  obtain ⟨r1, r2⟩ := hr z (List.mem_of_getElem? hz)
  exact ⟨enc4 z, rfl, ⟨[.int .i64 z.at_], _, rfl, rfl, ⟨[.int .i64 z.ep], _, rfl, rfl, ⟨z.A, z.c, rfl, r1, r2⟩⟩⟩, k3⟩
structure RD where
  A : Option Addr
  c : Nat
  x : List C3
abbrev RD.v (d : RD) : Value := .slice d.A d.x.length d.c
/-- What is read of cells of the program's own from b on. -/
theorem F_out {w : World} {b : Nat} {A : Option Addr} {n c : Nat} {out : List C4} (h : K4.R 77 w b (fun _ => True) (.slice A n c) out) (hO : ∀ z ∈ out, OwnB w b z) : Kd.F KC w (fun j => b ≤ j) A out.length (out.map C4.c3) := by
  intro W hW
  have h1 : K4.R 77 W b (fun _ => True) (.slice A n c) out := Kd.R_mono (Kd.R_move (Kd.R_bound h) fun k hk => hW k hk.2.1 hk.2.2.1) (fun _ _ => trivial)
  have h2 : ∀ z ∈ out, OwnB W b z := fun z hz => Kd.R_mono (Kd.R_move (Kd.R_bound (hO z hz)) fun k hk => hW k hk.2.1 hk.2.2.1) (fun _ _ => trivial)
  obtain ⟨e, hc, hC⟩ := Kd.R_reads' h1
  refine C_K4 hC fun z hz => ?_
  obtain ⟨e2, hc2, hC2⟩ := Kd.R_reads' (h2 z hz)
  exact ⟨hc2, hC2⟩
def RepE (f : S3 → Int × S3) (rs : List Bool) (st : List S3) (b0 p1 B : Nat) (k : Nat) (x1 : LB) (w1 : World) : Prop :=
  ∃ (vrep : Value) (ds : List RD), w1.heap[p1]? = some (.cells #[vrep] 69 (0, 0)) ∧ Row w1 b0 71 vrep (ds.map RD.v) ∧ ds.map RD.x = reps f rs st k ∧
    ∀ d ∈ ds, d.x.length ≤ d.c ∧ Kd.F KC w1 (fun j => ¬ LF x1 j ∧ j ≠ B ∧ j ≠ p1 ∧ vrep.ownBlock ≠ some j) d.A d.x.length d.x
section
variable {f : S3 → Int × S3} {rs : List Bool} {st : List S3} {b0 p1 B k : Nat} {x1 x2 : LB} {w1 w2 : World}
/-- Blocks that are not the replies' are turned. -/
theorem RepE.step (h : RepE f rs st b0 p1 B k x1 w1) (hk : ∀ j, j < w1.heap.size → ((∃ cs, w1.heap[j]? = some (.cells cs 69 (0, 0))) ∨ (∃ cs, w1.heap[j]? = some (.cells cs 71 (0, 0))) ∨ (¬ LF x1 j ∧ j ≠ B)) → w2.heap[j]? = w1.heap[j]?) (hx : ∀ j, LF x2 j → LF x1 j ∨ w1.heap.size ≤ j) : RepE f rs st b0 p1 B k x2 w2 := by
  obtain ⟨vrep, ds, h1, h2, h3, h4⟩ := h
  refine ⟨vrep, ds, (hk _ (Array.getElem?_eq_some_iff.1 h1).1 (.inl ⟨_, h1⟩)).trans h1, h2.move fun j e => ?_, h3, fun d hd => ⟨(h4 d hd).1, ?_⟩⟩
  · obtain ⟨_, hlt, cur, hc⟩ := h2.lt j e
    exact hk j hlt (.inr (.inl ⟨cur, hc⟩))
  · refine Kd.F_mono (Kd.F_step (Kd.F_bound (h4 d hd).2) fun j hj hlt => hk j hlt (.inr (.inr ⟨hj.1.1, hj.1.2.1⟩))) fun j hj => ⟨fun e => ?_, hj.1.2⟩
    rcases hx j e with e | e
    · exact hj.1.1 e
    · have := hj.2; omega
theorem RepE.set (h : RepE f rs st b0 p1 B k x1 w1) (v : Value) (hB : ∃ u, w1.heap[B]? = some (.cells #[u] 113 (0, 0))) : RepE f rs st b0 p1 B k x1 (w1.setCell ⟨B, 0, none⟩ v) := by
  obtain ⟨u, hu⟩ := hB
  refine h.step (fun j hj hh => set_other v ?_) (fun _ h => .inl h)
  rintro rfl
  rcases hh with ⟨cs, hh⟩ | ⟨cs, hh⟩ | hh
  · rw [hu] at hh; cases hh
  · rw [hu] at hh; cases hh
  · exact hh.2 rfl
theorem RepE.next (h : RepE f rs st b0 p1 B k x1 w1) (he : reps f rs st (k + 1) = reps f rs st k) : RepE f rs st b0 p1 B (k + 1) x1 w1 := by
  obtain ⟨vrep, ds, h1, h2, h3, h4⟩ := h
  exact ⟨vrep, ds, h1, h2, by rw [he]; exact h3, h4⟩
/-- A node was turned. -/
theorem RepE.node {w0 : World} {n n' : NB} {g : Nat} {gd : Nat × (Nat → Prop)} {room : Int} {t : S3} (h : RepE f rs st b0 p1 B k x1 w1) (N : NS w0 w1 n g gd room t) (hn : n ∈ x1.ns) (T : Stp w1 w2 (SN n) (SN n')) (hx : ∀ j, LF x2 j → LF x1 j ∨ w1.heap.size ≤ j) : RepE f rs st b0 p1 B k x2 w2 := by
  refine h.step (fun j hj hh => T.keep j hj fun e => ?_) hx
  rcases hh with ⟨cs, hh⟩ | ⟨cs, hh⟩ | hh
  · exact NS.ne N hh (.inr (.inr (.inr (.inr (.inl rfl))))) e
  · exact NS.ne N hh (.inr (.inr (.inr (.inr (.inr rfl))))) e
  · exact hh.1 (.inl (.inr (.inr (.inr ⟨n, hn, e⟩))))
theorem infoRow : (Tryz.prog.info? 71).map (fun i => (i.zero, i.size, i.bytes)) = some (some (.slice none 0 0), 1, 24) := by kernel_rfl
/-- A reply more: what the append and the store come to. -/
theorem rep_push {w0 : World} {room : Int} {s : LS} {W : World} {x : LB} {Q : Nat → Prop} (L : Lg w0 w2 x1 room s) (T : Fr2 W w2 x x1 Q) (h : RepE f rs st b0 p1 B k x1 w2) (hb0 : b0 = W.heap.size) (hw0 : w0.heap.size ≤ p1) (hQ : Q p1) (hpB : p1 < b0 ∧ B < b0 ∧ p1 ≠ B)
    {A : Option Addr} {c b : Nat} {out : List C4} (hF : Kd.F KC w2 (fun j => b ≤ j) A out.length (out.map C4.c3)) (hc : out.length ≤ c) (hbl : ∀ j, LF x1 j → j < b) (hbB : p1 < b ∧ B < b) (hbv : ∀ v, w2.heap[p1]? = some (.cells #[v] 69 (0, 0)) → ∀ j, v.ownBlock = some j → j < b) (hk : k ≤ 100) (he : reps f rs st (k + 1) = reps f rs st k ++ [out.map C4.c3]) :
    ∃ vrep v5 w5, w2.cell? ⟨p1, 0, none⟩ = some vrep ∧ (w2.alloc (.cells #[.slice A out.length c] 71)).cell? ⟨p1, 0, none⟩ = some vrep ∧ (∃ A n c, vrep = .slice A n c) ∧
      (Builtin.append_ #[69, 69] 69 #[vrep, .slice (some ⟨w2.heap.size, 0, none⟩) 1 1]).run Tryz.prog (w2.alloc (.cells #[.slice A out.length c] 71)) = .ok v5 w5 ∧ (∃ A n c, v5 = .slice A n c) ∧ (∃ u, w5.cell? ⟨p1, 0, none⟩ = some u ∧ w5.frozen? ⟨p1, 0, none⟩ = false) ∧
      Lg w0 (w5.setCell ⟨p1, 0, none⟩ v5) x1 room s ∧ Fr2 W (w5.setCell ⟨p1, 0, none⟩ v5) x x1 Q ∧ (w5.setCell ⟨p1, 0, none⟩ v5).heap[B]? = w2.heap[B]? ∧ RepE f rs st b0 p1 B (k + 1) x1 (w5.setCell ⟨p1, 0, none⟩ v5) := by
  obtain ⟨vrep, ds, h1, h2, h3, h4⟩ := h
  have hlt1 := (Array.getElem?_eq_some_iff.1 h1).1
  have hba := (Below.refl w2.heap.size w2).alloc (Nat.le_refl _) (.cells #[.slice A out.length c] 71)
  have hWs := T.size
  obtain ⟨i23, hi, hz, hs, hb⟩ := info_parts infoRow
  have hdl : ds.length ≤ 100 := by
    have h5 : ds.length = (reps f rs st k).length := by rw [← h3, List.length_map]
    have h6 : (reps f rs st k).length ≤ k := by
      unfold reps
      refine Nat.le_trans (List.length_filterMap_le _ _) ?_
      rw [List.length_take]; exact Nat.min_le_left _ _
    omega
  obtain ⟨v5, w5, hrun, hrow, hgr, hat⟩ := run_append (P := Tryz.prog) (w2.alloc (.cells #[.slice A out.length c] 71)) b0 69 69 71 i23 (.slice none 0 0) 24 Tryz.underlying69 hi hz hs hb rfl vrep (ds.map RD.v) (h2.below hba) (some ⟨w2.heap.size, 0, none⟩) 1 [.slice A out.length c] (fun _ => ⟨_, rfl, fun j y hj => by
    cases j with
    | zero =>
      have e0 : (⟨w2.heap.size, 0, none⟩ : Addr).add 0 = ⟨w2.heap.size, 0, none⟩ := by unfold Addr.add; simp
      rw [e0, (blk_cell (heap_alloc_new w2 _) 0)]; simpa using hj
    | succ j => simp at hj⟩) (fun y hy => by simp at hy; rw [hy]; rfl) (by simp; omega) (by simp; omega) (by simp; omega)
  have hs5 := hgr.size
  have hsA : (w2.alloc (.cells #[.slice A out.length c] 71)).heap.size = w2.heap.size + 1 := by simp
  have hvp : vrep.ownBlock ≠ some p1 := fun e => by
    have := (h2.lt p1 e).1; omega
  have hb1 := (hba.block p1 hlt1).trans h1
  have hb5 := (hgr.block p1 (by omega) (fun e => hvp e.symm)).trans hb1
  have hv5 : ∀ j, v5.ownBlock = some j → vrep.ownBlock = some j ∨ w2.heap.size < j := fun j hj => by
    rcases hat with q | ⟨i, q, hi⟩
    · exact .inl (q ▸ hj)
    · rw [q] at hj; injection hj with hj; exact .inr (by omega)
  have hold : ∀ j, j < w2.heap.size → j ≠ p1 → vrep.ownBlock ≠ some j → (w5.setCell ⟨p1, 0, none⟩ v5).heap[j]? = w2.heap[j]? := fun j hj h1 h2 =>
    (set_other _ h1).trans ((hgr.block j (by omega) (fun e => h2 e.symm)).trans (hba.block j hj))
  have hbase : Below w0.heap.size w0 (w5.setCell ⟨p1, 0, none⟩ v5) := below_set ((below_then L.base L.base.size hba).grown hgr (Nat.le_trans L.base.size hba.size) (fun j e => by
    have := (h2.lt j e).1; omega)) hw0
  have hv5p : ∀ j, v5.ownBlock = some j → j ≠ p1 := fun j hj e => by
    rcases hv5 j hj with q | q
    · rw [e] at q; exact hvp q
    · omega
  refine ⟨vrep, v5, w5, (blk_cell h1 0).trans rfl, (blk_cell hb1 0).trans rfl, ?_, hrun, ?_, ⟨_, (blk_cell hb5 0).trans rfl, blk_frozen hb5 0⟩, L.forn hbase (by simp; omega) (fun j o ho hf => ?_), T.far (by simp; omega) (fun j hj hq => hold j (by omega) (fun e => hq (e ▸ hQ)) (fun e => by have := (h2.lt j e).1; omega)), ?_, ?_⟩
  · obtain ⟨A5, c5, e5, _⟩ := h2.slice
    exact ⟨_, _, _, e5⟩
  · obtain ⟨A5, c5, e5, _⟩ := hrow.slice
    exact ⟨_, _, _, e5⟩
  · refine (hold j (Array.getElem?_eq_some_iff.1 ho).1 (fun e => ?_) (fun e => ?_)).trans ho
    · rw [e, h1] at ho
      exact hf ⟨_, _, _, (Option.some.inj ho).symm, .inr (.inl rfl)⟩
    · obtain ⟨_, _, cur, hc⟩ := h2.lt j e
      rw [hc] at ho
      exact hf ⟨_, _, _, (Option.some.inj ho).symm, .inr (.inr rfl)⟩
  · exact hold B (by omega) (fun e => hpB.2.2 e.symm) (fun e => by have := (h2.lt B e).1; omega)
  · refine ⟨v5, ds ++ [⟨A, c, out.map C4.c3⟩], ?_, ?_, by rw [List.map_append, h3, he]; rfl, fun d hd => ?_⟩
    · have := heap_setCell_same w5 p1 0 _ 69 v5 hb5
      simpa using this
    · rw [List.map_append]
      have : [(⟨A, c, out.map C4.c3⟩ : RD)].map RD.v = [.slice A out.length c] := by simp [RD.v]
      rw [this]
      exact hrow.move fun j hj => set_other _ (hv5p j hj)
    · rcases List.mem_append.1 hd with hd | hd
      · obtain ⟨q1, q2⟩ := h4 d hd
        refine ⟨q1, Kd.F_mono (Kd.F_step (Kd.F_bound q2) fun j hj hlt => hold j hlt hj.1.2.2.1 hj.1.2.2.2) fun j hj => ⟨hj.1.1, hj.1.2.1, hj.1.2.2.1, fun e => ?_⟩⟩
        rcases hv5 j e with q | q
        · exact hj.1.2.2.2 q
        · have := hj.2; omega
      · obtain rfl := List.mem_singleton.1 hd
        refine ⟨by simpa using hc, ?_⟩
        have hF' : Kd.F KC w2 (fun j => b ≤ j) A (out.map C4.c3).length (out.map C4.c3) := by rw [List.length_map]; exact hF
        refine Kd.F_mono (Kd.F_step (Kd.F_bound hF') fun j hj hlt => hold j hlt (fun e => ?_) (fun e => ?_)) fun j hj => ⟨fun e => ?_, fun e => ?_, fun e => ?_, fun e => ?_⟩
        · have := hj.1; omega
        · have := hbv vrep h1 j e; have := hj.1; omega
        · have := hbl j e; have := hj.1; omega
        · have := hj.1; omega
        · have := hj.1; omega
        · rcases hv5 j e with q | q
          · have := hbv vrep h1 j q; have := hj.1; omega
          · have := hj.2; omega
end
end Go.Proofs.YtiinelmednbpmaaGreat.Slog
/- The walk of the closure that Open hands to ask. -/
namespace Go.Proofs.YtiinelmednbpmaaGreat.Slog
open Go.RowKit Go.Maps Go.Proofs.YtiinelmednbpmaaGreatW.PrintWords Go.Proofs.YtiinelmednbpmaaGreatW.PrintMore Go.Proofs.YtiinelmednbpmaaGreat.Row Go.Proofs.YtiinelmednbpmaaGreat.Cut Go.Proofs.YtiinelmednbpmaaGreat.DiskM Go.Proofs.YtiinelmednbpmaaGreat.Quor Go.Proofs.YtiinelmednbpmaaGreat.Slot
def SealN (w0 w : World) (n : NB) (g : Nat) (gd : Nat × (Nat → Prop)) (room : Int) (r : Int × S3) (e : Ending) (w' : World) : Prop :=
  ∃ (A : Option Addr) (c : Nat) (out : List C4) (n' : NB) (b2 : Nat), e = .returned (.tuple #[.slice A out.length c, .int .i64 r.1]) ∧ out.length ≤ c ∧ Kd.F KC w' (fun j => b2 ≤ j) A out.length (out.map C4.c3) ∧ (r.1 = 0 → out.map C4.c3 = sortC r.2.2.1) ∧
    NS w0 w' n' g gd room r.2 ∧ Stp w w' (SN n) (SN n') ∧ (∀ k, SN n' k → k < b2) ∧ w.heap.size ≤ b2
theorem seal_nsR {w0 w : World} {n : NB} {g : Nat} {gd : Nat × (Nat → Prop)} {room : Int} {s : S3} (h : NS w0 w n g gd room s) (epoch : Int) :
    Calls Tryz.prog 30 #[.pointer (some ⟨g, 0, none⟩), .int .i64 epoch] w (SealN w0 w n g gd room (sealR room s epoch)) := by
  obtain ⟨rfl, rfl, m, N, hm⟩ := h
  have hs : s = (s.1, m.map C4.c3, s.2.2) := by rw [hm]
  refine (seal_any N epoch).mono ?_
  rintro e w1 ⟨v, out, n', ep', m', rfl, _, _, hA, h1, h2, N', he, hst, b2, hR, hO, hb1, hb2⟩
  rw [← hs] at N' he hA ⊢
  obtain ⟨A, c, rfl⟩ := Kd.R_slice hR
  have e1 : ep' = (sealR room s epoch).2.1 := congrArg (fun x => x.1) he
  have e2 : m'.map C4.c3 = (sealR room s epoch).2.2.1 := congrArg (fun x => x.2.1) he
  refine ⟨A, c, out, n', b2, rfl, (Kd.R_reads' hR).2.1, F_out hR hO, fun h0 => ?_, ⟨h2, h1, m', ?_, e2⟩, hst, hb1, hb2⟩
  · rw [if_pos h0, ← e2] at hA
    rw [← e2]
    exact all_sortC N'.once hA
  · rw [← e1]; exact N'
theorem reps_yes {f : S3 → Int × S3} {rs : List Bool} {st : List S3} {k : Nat} {t : S3} (h : rs.getD k false = true) (hk : st[k]? = some t) (h0 : (f t).1 = 0) : reps f rs st (k + 1) = reps f rs st k ++ [sortC (f t).2.2.1] := by
  rw [reps_succ f rs st k t hk]
  unfold wellI
  rw [h, h0]; simp
theorem reps_not {f : S3 → Int × S3} {rs : List Bool} {st : List S3} {k : Nat} {t : S3} (hk : st[k]? = some t) (h0 : ¬ (f t).1 = 0) : reps f rs st (k + 1) = reps f rs st k := by
  rw [reps_succ f rs st k t hk]
  unfold wellI
  simp [h0]
theorem reps_skip {f : S3 → Int × S3} {rs : List Bool} {st : List S3} {k : Nat} (h : rs.getD k false = false) (hk : k < st.length) : reps f rs st (k + 1) = reps f rs st k := by
  rw [reps_succ f rs st k _ (List.getElem?_eq_getElem hk)]
  unfold wellI
  rw [h]; simp
def OcP (w0 w1 W : World) (x x1 : LB) (room : Int) (s : LS) (f : S3 → Int × S3) (rs : List Bool) (b0 p1 B k : Nat) (Q : Nat → Prop) (r : Int) (e : Ending) (w2 : World) : Prop :=
  e = .returned (.int .i64 r) ∧ ∃ x2, SameB x1 x2 ∧ Lg w0 w2 x2 room { s with st := part f rs s.st (k + 1) } ∧ Fr2 W w2 x x2 Q ∧ w2.heap[B]? = w1.heap[B]? ∧ RepE f rs s.st b0 p1 B (k + 1) x2 w2
set_option maxRecDepth 1000000 in
set_option maxHeartbeats 8000000 in
theorem oclo_calls {w0 w1 W : World} {x x1 : LB} {room : Int} {s : LS} {f : S3 → Int × S3} {rs : List Bool} {b0 p0 p1 B k : Nat} {Q : Nat → Prop} {n : NB} {t : S3} (ep : Int) (hf : f = fun t => sealR room t ep)
    (hr : rs.getD k false = true) (hs : SameB x x1) (L1 : Lg w0 w1 x1 room { s with st := part f rs s.st k }) (T : Fr2 W w1 x x1 Q) (hn : x1.ns[k]? = some n) (ht : s.st[k]? = some t) (N : NS w0 w1 n n.gn n.gp room t) (E : RepE f rs s.st b0 p1 B k x1 w1) (hB : ∃ v, w1.heap[B]? = some (.cells #[v] 113 (0, 0)))
    (c0 : w1.cell? ⟨p0, 0, none⟩ = some (.pointer (some ⟨x.lg, 0, none⟩))) (hep : s.ep = ep) (hb0 : b0 = W.heap.size) (hw0 : w0.heap.size ≤ p1) (hQ : Q p1) (hpB : p1 < b0 ∧ B < b0 ∧ p1 ≠ B) (hk100 : k ≤ 100) :
    Calls Tryz.prog 29 #[nptr n, .pointer (some ⟨p0, 0, none⟩), .pointer (some ⟨p1, 0, none⟩)] w1 (OcP w0 w1 W x x1 room s f rs b0 p1 B k Q (f t).1) := by
  have c1 : w1.cell? ⟨x.lg, 3, none⟩ = some (.int .i64 ep) := by have := L1.cells.2.2.2.1; rw [hs.1] at this; rw [this]; simp only [hep]
  have hsl := seal_nsR N ep
  have hft : f t = sealR room t ep := by rw [hf]
  rw [← hft] at hsl
  have HX := Lib.hid (And.intro L1 (And.intro T (And.intro N (And.intro E hB))))
  have HN := Lib.hid (And.intro hn (And.intro ht (And.intro hr hs)))
  have HZ := Lib.hid (And.intro hb0 (And.intro hw0 (And.intro hQ hpB)))
  clear L1 T N E hB hn ht hr hs hb0 hw0 hQ hpB hf hft
  go_enter Tryz.func29, Tryz.ntmps29
  go_wp2_with fail
  refine hsl.mono ?_
  rintro e w2 ⟨A, c, out, n', b2, rfl, hc, hF, h0, N', T', hb1, hb2⟩
  obtain ⟨L1, T, N, E, hB⟩ := HX.out
  obtain ⟨hn, ht, hr, hs⟩ := HN.out
  obtain ⟨hb0, hw0, hQ, hpB⟩ := HZ.out
  obtain ⟨x2, hs2, L2, hB2, T2, hx2⟩ := node_step L1 hn ht hr N N' T' hB
  have E2 := E.node N (List.mem_of_getElem? hn) T' T2.new
  have T3 := T.step T2
  by_cases hr0 : (f t).1 = 0
  · have hWs := T.size
    obtain ⟨vrep1, ds1, hp1, hrow1, _⟩ := E
    have hpk : w2.heap[p1]? = w1.heap[p1]? := T'.keep p1 (Array.getElem?_eq_some_iff.1 hp1).1 (NS.ne N hp1 (.inr (.inr (.inr (.inr (.inl rfl))))))
    obtain ⟨vrep, v5, w5, g0, g1, ⟨Av, nv, cv, rfl⟩, hrun, ⟨A5, n5, c5, rfl⟩, ⟨u5, g5, f5⟩, L5, T5, hB5, E5⟩ := rep_push (x := x) (Q := Q) L2 T3 E2 hb0 hw0 hQ hpB hF hc (fun j e => by
      rcases hx2 j e with e | e
      · have := (L1.lf_lt e).2; omega
      · exact hb1 j e) (by omega) (fun v hv j e => by
      rw [hpk, hp1] at hv
      have : vrep1 = v := by cases hv; rfl
      rw [← this] at e
      have := (hrow1.lt j e).2.1; omega) hk100 (by rw [reps_yes hr ht hr0, h0 hr0])
    have HRun := Lib.hid hrun; have HR0 := Lib.hid hr0
    have HF := Lib.hid (And.intro hs2 (And.intro L5 (And.intro T5 (And.intro (hB5.trans hB2) E5))))
    rw [hr0]
    obtain ⟨ol, hol⟩ : ∃ ol, ol = out.length := ⟨_, rfl⟩
    rw [← hol] at HRun g1 ⊢
    clear L1 T N E2 hB hn ht hr hs hb0 hw0 hQ hpB L2 hB2 T2 hx2 T3 hWs hp1 hrow1 hpk hrun L5 T5 hB5 E5 hF hc h0 N' T' hb1 hb2 hs2 hsl hr0 hol
    go_wp2_with (at_builtin; refine wp_append_run rfl _ _ 69 (by rfl) _ _ _ (by rfl) (by rfl) HRun.out ?_)
    go_ret
    exact ⟨by rw [HR0.out]; rfl, x2, HF.out⟩
  · have E3 := E2.next (reps_not ht hr0)
    have HF := Lib.hid (And.intro hs2 (And.intro L2 (And.intro T3 (And.intro hB2 E3))))
    have hb : ((f t).1 == 0) = false := beq_eq_false_iff_ne.2 hr0
    generalize (f t).1 = r at *
    clear L1 T N E2 hB hn ht hr hs hb0 hw0 hQ hpB L2 hB2 T2 hx2 T3 E3 hF hc h0 N' T' hb1 hb2 hs2 hsl E
    go_wp2_with fail
    go_ret
    exact ⟨rfl, x2, HF.out⟩
end Go.Proofs.YtiinelmednbpmaaGreat.Slog
/- Plain: replies, the row that is made of them, and what is written. -/
namespace Go.Proofs.YtiinelmednbpmaaGreat.Slog
open Go.RowKit Go.Maps Go.Proofs.YtiinelmednbpmaaGreatW.PrintWords Go.Proofs.YtiinelmednbpmaaGreatW.PrintMore Go.Proofs.YtiinelmednbpmaaGreat.Row Go.Proofs.YtiinelmednbpmaaGreat.Cut Go.Proofs.YtiinelmednbpmaaGreat.DiskM Go.Proofs.YtiinelmednbpmaaGreat.Quor Go.Proofs.YtiinelmednbpmaaGreat.Slot
theorem mem_sortC {m : List B3} (h : Once m) (c : B3) : c ∈ sortC m ↔ c ∈ m := (rel_sortC h).2 c
theorem insC_len (c : B3) : ∀ (l : List B3), (insC c l).length ≤ l.length + 1
  | [] => by simp [insC]
  | x :: r => by
    unfold insC
    have := insC_len c r
    split
    · simp only [List.length_cons]; omega
    · split <;> simp only [List.length_cons] <;> omega
theorem sortC_len : ∀ (m : List B3), (sortC m).length ≤ m.length
  | [] => by simp [sortC]
  | c :: r => by
    show (insC c (sortC r)).length ≤ _
    have h1 := insC_len c (sortC r)
    have h2 := sortC_len r
    simp only [List.length_cons]; omega
theorem NS.onceC {w0 w : World} {n : NB} {g : Nat} {gd : Nat × (Nat → Prop)} {room : Int} {t : S3} (h : NS w0 w n g gd room t) : Once t.2.1 ∧ t.2.1.length ≤ 4096 := by
  obtain ⟨_, _, m, N, hm⟩ := h
  rw [← hm]
  exact ⟨N.once, by rw [List.length_map]; exact N.few⟩
/-- What a node's state keeps to. -/
def Fine (t : S3) : Prop := Once t.2.1 ∧ t.2.1.length ≤ 4096 ∧ ∀ c ∈ t.2.1, (0 ≤ c.1 ∧ c.1 ≤ 4095) ∧ (0 ≤ c.2.1 ∧ c.2.1 ≤ 1048576) ∧ c.2.2.length ≤ 2048 ∧ ∀ x ∈ c.2.2, 0 ≤ x ∧ x ≤ 255
theorem Lg.fine {w0 w : World} {x : LB} {room : Int} {s : LS} (L : Lg w0 w x room s) {t : S3} (ht : t ∈ s.st) : Fine t := by
  obtain ⟨i, hi⟩ := List.mem_iff_getElem?.1 ht
  obtain ⟨n, _, N⟩ := L.at' hi
  obtain ⟨h1, h2⟩ := NS.onceC N
  exact ⟨h1, h2, N.rngc⟩
theorem rep_mem {f : S3 → Int × S3} {rs : List Bool} {st : List S3} {l : List B3} (hl : l ∈ repF f rs st) : ∃ t ∈ askSt f rs st, l = sortC t.2.1 := by
  unfold repF at hl
  rw [List.mem_filterMap] at hl
  obtain ⟨o, ho, e⟩ := hl
  obtain ⟨i, hi⟩ := List.mem_iff_getElem?.1 ho
  rw [List.getElem?_mapIdx] at hi
  cases hs : st[i]? with
  | none => rw [hs] at hi; cases hi
  | some t =>
    rw [hs] at hi
    obtain rfl := Option.some.inj hi
    simp only [id] at e
    unfold repI at e
    by_cases hw : wellI f rs i t = true
    · rw [if_pos hw] at e
      obtain rfl := Option.some.inj e
      refine ⟨(f t).2, ?_, rfl⟩
      have : (askSt f rs st)[i]? = some (f t).2 := by
        rw [askSt_get, hs]
        unfold wellI at hw
        simp only [Bool.and_eq_true] at hw
        show some (turnI f rs i t) = _
        rw [turnI_yes hw.1]
      exact List.mem_of_getElem? this
    · rw [if_neg hw] at e; cases e
theorem rep_rng {f : S3 → Int × S3} {rs : List Bool} {st : List S3} (hF : ∀ t ∈ askSt f rs st, Fine t) : ∀ l ∈ repF f rs st, ∀ c ∈ l, (0 ≤ c.1 ∧ c.1 ≤ 4095) ∧ (0 ≤ c.2.1 ∧ c.2.1 ≤ 1048576) ∧ c.2.2.length ≤ 2048 ∧ ∀ x ∈ c.2.2, 0 ≤ x ∧ x ≤ 255 := by
  intro l hl c hc
  obtain ⟨t, ht, rfl⟩ := rep_mem hl
  have := hF t ht
  exact this.2.2 c ((mem_sortC this.1 c).1 hc)
theorem flat_len : ∀ (ls : List (List B3)), (∀ l ∈ ls, l.length ≤ 4096) → ls.flatten.length ≤ 4096 * ls.length
  | [], _ => by simp
  | l :: r, h => by
    have h1 := h l (by simp)
    have h2 := flat_len r (fun x hx => h x (by simp [hx]))
    simp only [List.flatten_cons, List.length_append, List.length_cons]; omega
theorem rep_flat {f : S3 → Int × S3} {rs : List Bool} {st : List S3} (hF : ∀ t ∈ askSt f rs st, Fine t) (h7 : st.length ≤ 7) : (repF f rs st).flatten.length ≤ 1000000 := by
  have h1 := flat_len (repF f rs st) fun l hl => by
    obtain ⟨t, ht, rfl⟩ := rep_mem hl
    have := hF t ht
    exact Nat.le_trans (sortC_len _) this.2.1
  have h2 : (repF f rs st).length ≤ 7 := by
    unfold repF
    refine Nat.le_trans (List.length_filterMap_le _ _) ?_
    simpa using h7
  omega
/-- What is merged: slots rise, cells are those of replies. -/
theorem merge_rng {f : S3 → Int × S3} {rs : List Bool} {st : List S3} (hF : ∀ t ∈ askSt f rs st, Fine t) : ∀ c ∈ mergeM (repF f rs st).flatten, (0 ≤ c.1 ∧ c.1 ≤ 4095) ∧ c.2.2.length ≤ 2048 ∧ ∀ x ∈ c.2.2, 0 ≤ x ∧ x ≤ 255 := by
  intro c hc
  have h1 := (bestAt_mem (mem_merge.1 hc)).1
  obtain ⟨l, hl, hcl⟩ := List.mem_flatten.1 h1
  have := rep_rng hF l hl c hcl
  exact ⟨this.1, this.2.2⟩
def RowOK (l : List (List Int)) : Prop := ∀ b ∈ l, b.length ≤ 2048 ∧ ∀ x ∈ b, 0 ≤ x ∧ x ≤ 255
theorem padTo_ok {n : Nat} {l : List (List Int)} (h : RowOK l) : RowOK (padTo n l) := by
  intro b hb
  unfold padTo at hb
  rcases List.mem_append.1 hb with hb | hb
  · exact h b hb
  · rw [(List.mem_replicate.1 hb).2]
    exact ⟨by simp, fun x hx => by cases hx⟩
theorem rowF_snoc (c : B3) : ∀ (l : List B3) (acc : List (List Int)), rowF (l ++ [c]) acc = padTo c.1.toNat (rowF l acc) ++ [c.2.2]
  | [], acc => rfl
  | d :: r, acc => by
    show rowF (r ++ [c]) (padTo d.1.toNat acc ++ [d.2.2]) = _
    rw [rowF_snoc c r]; rfl
theorem rowF_ok : ∀ (l : List B3) (acc : List (List Int)), RowOK acc → (∀ c ∈ l, c.2.2.length ≤ 2048 ∧ ∀ x ∈ c.2.2, 0 ≤ x ∧ x ≤ 255) → RowOK (rowF l acc)
  | [], acc, h, _ => h
  | c :: r, acc, h, hc => by
    refine rowF_ok r _ (fun b hb => ?_) fun d hd => hc d (by simp [hd])
    rcases List.mem_append.1 hb with hb | hb
    · exact padTo_ok h b hb
    · rw [List.mem_singleton.1 hb]; exact hc c (by simp)
/-- The row of cells whose slots rise ends with the last one's slot. -/
theorem rowF_len : ∀ (l : List B3), l.Pairwise (fun a b => a.1 < b.1) → (∀ c ∈ l, 0 ≤ c.1 ∧ c.1 ≤ 4095) → (rowF l []).length ≤ 4096 ∧ ∀ c ∈ l, c.1 < (rowF l []).length := by
  intro l
  suffices h : ∀ (r : List B3), ∀ a : List B3, l = a ++ r → l.Pairwise (fun a b => a.1 < b.1) → (∀ c ∈ l, 0 ≤ c.1 ∧ c.1 ≤ 4095) → ((rowF a []).length ≤ 4096 ∧ (∀ c ∈ a, c.1 < (rowF a []).length) ∧ (∀ c ∈ r, ((rowF a []).length : Int) ≤ c.1)) → (rowF l []).length ≤ 4096 ∧ ∀ c ∈ l, c.1 < (rowF l []).length by
    intro hs hc
    exact h l [] rfl hs hc ⟨by simp [rowF], fun c hc => (by cases hc), fun c hcl => by have := hc c hcl; simp [rowF]; omega⟩
  intro r
  induction r with
  | nil =>
    intro a ha _ _ h
    rw [List.append_nil] at ha
    subst ha
    exact ⟨h.1, h.2.1⟩
  | cons c r ih =>
    intro a ha hs hc h
    refine ih (a ++ [c]) (by rw [ha]; simp) hs hc ?_
    have hcr := hc c (by rw [ha]; simp)
    have h3 := h.2.2 c (by simp)
    have hl : ((rowF (a ++ [c]) []).length : Int) = c.1 + 1 := by
      rw [rowF_snoc, List.length_append, padTo_len, List.length_singleton]; omega
    rw [ha] at hs
    have hs2 := (List.pairwise_append.1 hs).2.1
    have hs3 := (List.pairwise_append.1 hs).2.2
    refine ⟨by omega, fun d hd => ?_, fun d hd => ?_⟩
    · rcases List.mem_append.1 hd with hd | hd
      · have := hs3 d hd c (by simp); omega
      · rw [List.mem_singleton.1 hd]; omega
    · have := (List.pairwise_cons.1 hs2).1 d hd; omega
theorem writesF_len (room ep : Int) (rs : List Bool) : ∀ (r : List (List Int)) (k : Nat) (st : List S3), (writesF room ep rs k r st).2.length = st.length
  | [], k, st => rfl
  | b :: r, k, st => by
    unfold writesF
    split
    · rw [writesF_len room ep rs r, askSt_len]
    · exact askSt_len _ _ _
end Go.Proofs.YtiinelmednbpmaaGreat.Slog
/- The row that Open makes, in memory. -/
namespace Go.Proofs.YtiinelmednbpmaaGreat.Slog
open Go.RowKit Go.Maps Go.Proofs.YtiinelmednbpmaaGreatW.PrintWords Go.Proofs.YtiinelmednbpmaaGreatW.PrintMore Go.Proofs.YtiinelmednbpmaaGreat.Row Go.Proofs.YtiinelmednbpmaaGreat.Cut Go.Proofs.YtiinelmednbpmaaGreat.DiskM Go.Proofs.YtiinelmednbpmaaGreat.Quor Go.Proofs.YtiinelmednbpmaaGreat.Slot
open Go.Proofs.YtiinelmednbpmaaGreat.Crc (KB)
def RI (w2 : World) (b1 : Nat) (wx : World) (v : Value) (acc : List (List Int)) : Prop :=
  RowB wx b1 (fun k => b1 ≤ k) v acc ∧ Below w2.heap.size w2 wx ∧ ∀ j, v.ownBlock = some j → w2.heap.size ≤ j
theorem RI.start (w2 : World) (b1 : Nat) : RI w2 b1 w2 (.slice none 0 0) [] := ⟨RowB.nil _ _ _, Below.refl _ _, fun j e => by simp [Value.ownBlock] at e⟩
theorem RI.slice {w2 wx : World} {b1 : Nat} {v : Value} {acc : List (List Int)} (h : RI w2 b1 wx v acc) : ∃ A c, v = .slice A acc.length c := by
  obtain ⟨A, c, e, _⟩ := h.1.reads
  exact ⟨A, c, e⟩
theorem RI.below {w2 wx wy : World} {b1 : Nat} {v : Value} {acc : List (List Int)} (h : RI w2 b1 wx v acc) (hb : Below wx.heap.size wx wy) : RI w2 b1 wy v acc := ⟨h.1.below hb, below_then h.2.1 h.2.1.size hb, h.2.2⟩
theorem RI.push {w2 wx : World} {b1 : Nat} {v : Value} {acc : List (List Int)} (h : RI w2 b1 wx v acc) (hb1 : b1 ≤ w2.heap.size) (z : RB) (hz : Row wx b1 5 z.v (nums .u8 z.by_)) (hl : acc.length ≤ 4096) :
    ∃ A5 c5 w5, (Builtin.append_ #[22, 22] 22 #[v, .slice (some ⟨wx.heap.size, 0, none⟩) 1 1]).run Tryz.prog (wx.alloc (.cells #[z.v] 32)) = .ok (.slice A5 (acc.length + 1) c5) w5 ∧ RI w2 b1 w5 (.slice A5 (acc.length + 1) c5) (acc ++ [z.by_]) ∧
      (∀ j, j < wx.heap.size → v.ownBlock ≠ some j → w5.heap[j]? = wx.heap[j]?) ∧ ∀ j, (Value.slice A5 (acc.length + 1) c5).ownBlock = some j → v.ownBlock = some j ∨ wx.heap.size ≤ j := by
  obtain ⟨hR, hb, hv⟩ := h
  have hba := (Below.refl wx.heap.size wx).alloc (Nat.le_refl _) (.cells #[z.v] 32)
  obtain ⟨zs, h1, h2, h3⟩ := hR.below hba
  have hzl : zs.length = acc.length := by rw [← h2, List.length_map]
  have hsz := hb.size
  have hsA : (wx.alloc (.cells #[z.v] 32)).heap.size = wx.heap.size + 1 := by simp
  obtain ⟨v5, w5, hrun, hrow, hgr, hat⟩ := append_row (wx.alloc (.cells #[z.v] 32)) b1 v (zs.map RB.v) h1 ⟨wx.heap.size, 0, none⟩ z.v ((blk_cell (heap_alloc_new wx _) 0).trans rfl) rfl (by rw [List.length_map]; omega) (by omega)
  obtain ⟨A5, c5, e5, _⟩ := hrow.slice
  have hlen : (zs.map RB.v ++ [z.v]).length = acc.length + 1 := by simp [hzl]
  rw [hlen] at e5
  have hs5 := hgr.size
  have hty : ∀ (j : Nat) cs, (wx.alloc (.cells #[z.v] 32)).heap[j]? = some (.cells cs 5 (0, 0)) → w5.heap[j]? = (wx.alloc (.cells #[z.v] 32)).heap[j]? := fun j cs hj => hgr.block j (Array.getElem?_eq_some_iff.1 hj).1 fun e => by
    obtain ⟨_, _, cur, hc⟩ := h1.lt j e.symm
    exact blk_ne hj hc (by decide) rfl
  refine ⟨A5, c5, w5, by rw [← e5]; exact hrun, ⟨⟨zs ++ [z], ?_, by rw [List.map_append, h2]; rfl, fun y hy => ?_⟩, (below_then hb hb.size hba).grown hgr (by omega) (fun j e => hv j e), fun j e => ?_⟩, fun j hj hn => (hgr.block j (by omega) (fun e => hn e.symm)).trans (hba.block j hj), fun j e => ?_⟩
  · rw [← e5, List.map_append]; exact hrow
  · rcases List.mem_append.1 hy with hy | hy
    · obtain ⟨q1, q2⟩ := h3 y hy
      exact ⟨q1.move fun j e => by
        obtain ⟨_, _, cur, hc⟩ := q1.lt j e
        exact hty j cur hc, q2⟩
    · obtain rfl := List.mem_singleton.1 hy
      have q1 := hz.below hba
      exact ⟨q1.move fun j e => by
        obtain ⟨_, _, cur, hc⟩ := q1.lt j e
        exact hty j cur hc, fun j e => (q1.lt j e).1⟩
  · rw [← e5] at e
    rcases hat with q | ⟨i, q, hi⟩
    · exact hv j (q ▸ e)
    · rw [q] at e; injection e with e; omega
  · rw [← e5] at e
    rcases hat with q | ⟨i, q, hi⟩
    · exact .inl (q ▸ e)
    · rw [q] at e; injection e with e; exact .inr (by omega)
/-- A row of payloads is read whatever else is turned. -/
theorem F_row {w : World} {base : Nat} {ok : Nat → Prop} {z : RB} (h : Row w base 5 z.v (nums .u8 z.by_)) (ho : ∀ k, z.v.ownBlock = some k → ok k) : Kd.F (Kd.int .u8) w ok z.A z.by_.length z.by_ := by
  intro W hW
  obtain ⟨A, c, e, _, hC⟩ := (h.move (w1 := W) fun k hk => hW k (ho k hk) (h.lt k hk).2.1).reads
  injection e with e1 _ _
  rw [e1]; exact hC
theorem RowB.at_ {w : World} {base : Nat} {ok : Nat → Prop} {vr : Value} {row : List (List Int)} (h : RowB w base ok vr row) (k : Nat) (hk : k < row.length) : ∃ z : RB, row[k]? = some z.by_ ∧ z.by_.length ≤ z.c ∧ Kd.F (Kd.int .u8) w ok z.A z.by_.length z.by_ ∧
    ∀ A n c, vr = .slice A n c → ∃ ad, A = some ad ∧ w.cell? (ad.add k) = some z.v := by
  obtain ⟨zs, h1, h2, h3⟩ := h
  have hl : zs.length = row.length := by rw [← h2, List.length_map]
  obtain ⟨z, hz⟩ : ∃ z, zs[k]? = some z := ⟨_, List.getElem?_eq_getElem (by omega)⟩
  obtain ⟨q1, q2⟩ := h3 z (List.mem_of_getElem? hz)
  obtain ⟨A, c, e, hc, _⟩ := q1.reads
  injection e with _ _ e3
  refine ⟨z, by rw [← h2, List.getElem?_map, hz]; rfl, by rw [e3]; exact hc, F_row q1 q2, fun A n c hv => ?_⟩
  obtain ⟨g, hA, hc, _⟩ := h1.cellAt hv k z.v (by rw [List.getElem?_map, hz]; rfl)
  exact ⟨_, hA, by rw [add_plain]; exact hc⟩
theorem row_of_R {w : World} {base : Nat} {ok : Nat → Prop} {v : Value} {xs : List Int} (h : (Kd.int .u8).R 5 w base ok v xs) : Row w base 5 v (nums .u8 xs) := by
  obtain ⟨_, inner, ho, hl, hp⟩ := h
  have e : inner = nums .u8 xs := by
    apply List.ext_getElem?
    intro t
    have hl1 : inner.length = xs.length := by rw [hl]; exact Nat.mul_one _
    by_cases ht : t < xs.length
    · have h4 := hp t xs[t] (List.getElem?_eq_getElem ht)
      have h5 : (inner.drop (t * 1)).take 1 = [.int .u8 xs[t]] := h4
      rw [Nat.mul_one, List.drop_eq_getElem_cons (by omega)] at h5
      rw [List.take_succ_cons, List.take_zero] at h5
      have h6 : inner[t]'(by omega) = .int .u8 xs[t] := (List.cons.inj h5).1
      rw [List.getElem?_eq_getElem (by omega), h6]
      simp [nums, ht]
    · rw [List.getElem?_eq_none (by omega), List.getElem?_eq_none (by rw [nums_length]; omega)]
  rw [← e]
  exact row_of_own ho
theorem RowB.lower {w : World} {base base' : Nat} {ok : Nat → Prop} {vr : Value} {row : List (List Int)} (h : RowB w base ok vr row) (hb : base' ≤ base) : RowB w base' ok vr row := by
  obtain ⟨zs, h1, h2, h3⟩ := h
  exact ⟨zs, row_low h1 hb, h2, fun z hz => ⟨row_low (h3 z hz).1 hb, (h3 z hz).2⟩⟩
/-- The row through a step of the log. -/
theorem RowB.stp {w w' : World} {base : Nat} {x x' : LB} {vr : Value} {row : List (List Int)} (h : RowB w base (fun k => ¬ LF x k) vr row) (hv : ∀ j, vr.ownBlock = some j → ¬ LF x j) (T : Stp w w' (LF x) (LF x')) : RowB w' base (fun k => ¬ LF x' k) vr row ∧ ∀ j, vr.ownBlock = some j → ¬ LF x' j := by
  refine ⟨h.turn (fun k hk hlt _ => T.keep k hlt (hk.elim id (hv k))) (fun k hk hlt e => ?_), fun j hj e => ?_⟩
  · rcases T.new k e with e | e
    · exact hk e
    · omega
  · rcases T.new j e with e | e
    · exact hv j hj e
    · have := (h.lt hj).2.1; omega
theorem F_stp {α : Type} {d : Kd α} {w w' : World} {x x' : LB} {A : Option Addr} {n : Nat} {l : List α} (h : Kd.F d w (fun k => ¬ LF x k) A n l) (T : Stp w w' (LF x) (LF x')) : Kd.F d w' (fun k => ¬ LF x' k) A n l :=
  Kd.F_mono (Kd.F_step (Kd.F_bound h) fun k hk hlt => T.keep k hlt hk.1) fun k hk e => by
    rcases T.new k e with e | e
    · exact hk.1 e
    · have := hk.2; omega
theorem RowB.own {w : World} {base : Nat} {ok : Nat → Prop} {vr : Value} {row : List (List Int)} (h : RowB w base ok vr row) : RowB w base (fun k => ok k ∧ vr.ownBlock ≠ some k) vr row := by
  obtain ⟨zs, h1, h2, h3⟩ := h
  refine ⟨zs, h1, h2, fun z hz => ⟨(h3 z hz).1, fun k hk => ⟨(h3 z hz).2 k hk, fun e => ?_⟩⟩⟩
  obtain ⟨_, _, c1, hc1⟩ := h1.lt k e
  obtain ⟨_, _, c2, hc2⟩ := (h3 z hz).1.lt k hk
  exact blk_ne hc1 hc2 (by decide) rfl
/-- The end of Open: the new row, open. -/
theorem open_fin {w0 wx w' : World} {x : LB} {room : Int} {st : List S3} {o : Bool} {ep : Int} {row0 row : List (List Int)} {v : Value} (L : Lg w0 wx x room ⟨st, o, ep, row0⟩) (hR : RowB wx w0.heap.size (fun q => ¬ LF x q) v row) (hv : ∀ q, v.ownBlock = some q → ¬ LF x q) (hok : RowOK row) (hl : row.length ≤ 4096)
    (hb : Below w0.heap.size w0 w') (hsz : wx.heap.size ≤ w'.heap.size) (hk : ∀ k, k ≠ x.lg → w'.heap[k]? = wx.heap[k]?) (hblk : w'.heap[x.lg]? = some (.cells #[x.vd, x.vn, .bool true, .int .i64 ep, v] 63 (0, 0))) : Lg w0 w' { x with vr := v } room ⟨st, true, ep, row⟩ := by
  have hlg : ∀ {k : Nat} {cs : Array Value} {ty : TypeId}, wx.heap[k]? = some (.cells cs ty (0, 0)) → ty ≠ 63 → w'.heap[k]? = wx.heap[k]? := fun hc ht => hk _ (blk_ne hc L.blk ht)
  refine ⟨hb, L.low, hblk, L.dk.move fun k e => ?_, L.nd.move fun k e => ?_, fun k e h => hv k e (.inl h), ?_, ⟨hl, hok⟩, L.len, L.few, fun i n t hn ht => ?_, L.apart⟩
  · obtain ⟨_, _, cur, hcu⟩ := L.dk.lt k e
    exact hlg hcu (by decide)
  · obtain ⟨_, _, cur, hcu⟩ := L.nd.lt k e
    exact hlg hcu (by decide)
  · refine hR.own.turn (fun k hkk _ _ => hk k fun e => ?_) (fun k hkk _ e => ?_)
    · rcases hkk with hkk | hkk
      · exact hkk.1 (.inl (.inl e))
      · exact hv k hkk (.inl (.inl e))
    · rcases e with e | e
      · exact hkk.1 (.inl e)
      · exact hkk.2 e.symm
  · have M := L.each i n t hn ht
    refine NS.but M hb hsz fun k hlt hh => hk k fun e => ?_
    rcases hh with hh | ⟨cs, hh⟩
    · rw [e] at hh; exact NS.ne M L.blk (.inl rfl) hh
    · rw [e, L.blk] at hh; cases hh
end Go.Proofs.YtiinelmednbpmaaGreat.Slog
/- The walk of Open. -/
namespace Go.Proofs.YtiinelmednbpmaaGreat.Slog
open Go.RowKit Go.Maps Go.Proofs.YtiinelmednbpmaaGreatW.PrintWords Go.Proofs.YtiinelmednbpmaaGreatW.PrintMore Go.Proofs.YtiinelmednbpmaaGreat.Row Go.Proofs.YtiinelmednbpmaaGreat.Cut Go.Proofs.YtiinelmednbpmaaGreat.DiskM Go.Proofs.YtiinelmednbpmaaGreat.Quor Go.Proofs.YtiinelmednbpmaaGreat.Slot
open Go.Proofs.YtiinelmednbpmaaGreat.Crc (KB)
def OpP (w0 w : World) (x : LB) (room : Int) (r : Int × LS) (e : Ending) (w' : World) : Prop :=
  ∃ x', e = .returned (.int .i64 r.1) ∧ SameL x x' ∧ Lg w0 w' x' room r.2 ∧ Stp w w' (LF x) (LF x')
def setW (w : World) (lg : Nat) (e : Int) : World := ((w.setCell ⟨lg, 2, none⟩ (.bool false)).setCell ⟨lg, 3, none⟩ (.int .i64 e)).alloc (.cells #[.pointer (some ⟨lg, 0, none⟩)] 25)
/-- Up to ask: the closed log with the next epoch, and its closure's asking. -/
theorem open_start {w0 w : World} {x : LB} {room : Int} {s : LS} (L : Lg w0 w x room s) (hne : s.st ≠ []) (RA : Option Addr) (rc : Nat) (rs : List Bool) (hR : Kd.F Kd.bool w (fun k => ¬ LF x k) RA rs.length rs) :
    let W0 := (setW w x.lg (s.ep + 1)).alloc (.cells #[.slice none 0 0] 69)
    (setW w x.lg (s.ep + 1)).heap.size = w.heap.size + 1 ∧
    (∀ k, k < w.heap.size → ¬ LF x k → W0.heap[k]? = w.heap[k]?) ∧ W0.heap.size = w.heap.size + 2 ∧ W0.heap[w.heap.size]? = some (.cells #[.pointer (some ⟨x.lg, 0, none⟩)] 25 (0, 0)) ∧
    Calls Tryz.prog 28 #[.pointer (some ⟨x.lg, 0, none⟩), .slice RA rs.length rc, .func (.func 29) #[] #[.pointer (some ⟨w.heap.size, 0, none⟩), .pointer (some ⟨w.heap.size + 1, 0, none⟩)]] W0
      fun e w1 => ∃ x1, e = .returned (.bool (decide (needN s.st.length ≤ askN (fun t => sealR room t (s.ep + 1)) rs s.st))) ∧ SameB x x1 ∧ Lg w0 w1 x1 room { s with st := askSt (fun t => sealR room t (s.ep + 1)) rs s.st, opn := false, ep := s.ep + 1 } ∧ Fr2 W0 w1 x x1 (fun k => k = w.heap.size + 1) ∧
        RepE (fun t => sealR room t (s.ep + 1)) rs s.st (w.heap.size + 3) (w.heap.size + 1) (w.heap.size + 2) s.st.length x1 w1 := by
  intro W0
  have hlg := (Array.getElem?_eq_some_iff.1 L.blk).1
  have L2 := (L.setOpn false).1
  have L3 := (L2.setEp (s.ep + 1)).1
  have hb1 : Below ((w.setCell ⟨x.lg, 2, none⟩ (.bool false)).setCell ⟨x.lg, 3, none⟩ (.int .i64 (s.ep + 1))).heap.size ((w.setCell ⟨x.lg, 2, none⟩ (.bool false)).setCell ⟨x.lg, 3, none⟩ (.int .i64 (s.ep + 1))) (setW w x.lg (s.ep + 1)) := (Below.refl _ _).alloc (Nat.le_refl _) _
  have hs1 : (setW w x.lg (s.ep + 1)).heap.size = w.heap.size + 1 := by simp [setW]
  have hb4 : Below (setW w x.lg (s.ep + 1)).heap.size (setW w x.lg (s.ep + 1)) W0 := (Below.refl _ _).alloc (Nat.le_refl _) _
  have L4 : Lg w0 W0 x room { s with opn := false, ep := s.ep + 1 } := (L3.below hb1).below hb4
  have hs4 : W0.heap.size = w.heap.size + 2 := by show (World.alloc _ _).heap.size = _; simp [hs1]
  have hset : ∀ k, k < w.heap.size → k ≠ x.lg → (setW w x.lg (s.ep + 1)).heap[k]? = w.heap[k]? := fun k hk hn => (hb1.block k (by simpa using hk)).trans ((set_other _ hn).trans (set_other _ hn))
  have hk4 : ∀ k, k < w.heap.size → ¬ LF x k → W0.heap[k]? = w.heap[k]? := fun k hk h => (hb4.block k (by omega)).trans (hset k hk (fun e => h (.inl (.inl e))))
  have b0 : W0.heap[w.heap.size]? = some (.cells #[.pointer (some ⟨x.lg, 0, none⟩)] 25 (0, 0)) := (hb4.block _ (by omega)).trans (by
    have := heap_alloc_new ((w.setCell ⟨x.lg, 2, none⟩ (.bool false)).setCell ⟨x.lg, 3, none⟩ (.int .i64 (s.ep + 1))) (.cells #[.pointer (some ⟨x.lg, 0, none⟩)] 25)
    simpa [setW] using this)
  have b1 : W0.heap[w.heap.size + 1]? = some (.cells #[.slice none 0 0] 69 (0, 0)) := by
    have := heap_alloc_new (setW w x.lg (s.ep + 1)) (.cells #[.slice none 0 0] 69)
    rw [hs1] at this; exact this
  refine ⟨hs1, hk4, hs4, b0, ?_⟩
  obtain ⟨W, hW⟩ : ∃ W, W = W0.alloc (.cells #[.int .i32 0] 113) := ⟨_, rfl⟩
  have hb5 : Below W0.heap.size W0 W := by rw [hW]; exact (Below.refl _ _).alloc (Nat.le_refl _) _
  have hs5 : W.heap.size = w.heap.size + 3 := by rw [hW]; simp [hs4]
  have hcb : W.heap[w.heap.size + 2]? = some (.cells #[.int .i32 0] 113 (0, 0)) := by
    have := heap_alloc_new W0 (.cells #[.int .i32 0] 113)
    rw [hW, ← hs4]; exact this
  obtain ⟨An, cn, hvn, _, _⟩ := L.nd.slice
  rw [List.length_map, ← L.len] at hvn
  have hfew := L.few
  have hlen := L.len
  have hpos : 1 ≤ s.st.length := List.length_pos_iff.2 hne
  have hw0 := L.base.size
  obtain ⟨f, hf⟩ : ∃ f : S3 → Int × S3, f = fun t => sealR room t (s.ep + 1) := ⟨_, rfl⟩
  have E0 : RepE f rs s.st (w.heap.size + 3) (w.heap.size + 1) (w.heap.size + 2) 0 x W :=
    ⟨.slice none 0 0, [], (hb5.block _ (by omega)).trans b1, Row.nil _ _ _, by rw [reps_zero]; rfl, fun d hd => by cases hd⟩
  have key := asks_of (w0 := w0) (W := W) (x := x) (room := room) (s := { s with opn := false, ep := s.ep + 1 }) (f := f) (rs := rs) (B := w.heap.size + 2) (Q := fun k => k = w.heap.size + 2 ∨ k = w.heap.size + 1)
    (E := fun k x1 w1 => RepE f rs s.st (w.heap.size + 3) (w.heap.size + 1) (w.heap.size + 2) k x1 w1 ∧ ∃ u, w1.heap[w.heap.size + 2]? = some (.cells #[u] 113 (0, 0))) (fn := 29)
    (caps := [.pointer (some ⟨w.heap.size, 0, none⟩), .pointer (some ⟨w.heap.size + 1, 0, none⟩)]) (NA := An) (RA := RA) (nc := cn) hvn (by omega) (by omega) (.inl rfl)
    (fun w1 x1 hs T => hR w1 fun k hk hlt => (T.keep k (by omega) hk (by omega)).trans ((hb5.block k (by omega)).trans (hk4 k hlt hk)))
    (fun k x1 w1 v E hlt => ⟨E.1.set v E.2, ⟨v, by obtain ⟨u, hu⟩ := E.2; have := heap_setCell_same w1 (w.heap.size + 2) 0 _ 113 v hu; simpa using this⟩⟩)
    (fun k x1 w1 q E => ⟨E.1.step (fun _ _ _ => rfl) (fun _ h => .inl h), E.2⟩)
    (fun k x1 w1 E hk hr => ⟨E.1.next (reps_skip hr hk), E.2⟩)
    (fun k w1 x1 n t hk hr hs L1 T hn ht N E hB => by
      have q0 : w1.heap[w.heap.size]? = some (.cells #[.pointer (some ⟨x.lg, 0, none⟩)] 25 (0, 0)) := (T.keep w.heap.size (by omega) (fun e => by have := (L.lf_lt e).2; omega) (by omega)).trans ((hb5.block _ (by omega)).trans b0)
      have hcl := oclo_calls (p0 := w.heap.size) (s := { s with opn := false, ep := s.ep + 1 }) (s.ep + 1) hf hr hs L1 T hn ht N E.1 hB ((blk_cell q0 0).trans rfl) rfl (by omega) (by omega) (.inr rfl) (by omega) (by simp only at hk; omega)
      refine hcl.mono ?_
      rintro e w2 ⟨rfl, x2, h1, h2, h3, h4, h5⟩
      exact ⟨rfl, x2, h1, h2, h3, h4, h5, by rw [h4]; exact hB⟩)
  have h0 : AskI w0 W x room { s with opn := false, ep := s.ep + 1 } f rs (w.heap.size + 2) (fun k => k = w.heap.size + 2 ∨ k = w.heap.size + 1) (fun k x1 w1 => RepE f rs s.st (w.heap.size + 3) (w.heap.size + 1) (w.heap.size + 2) k x1 w1 ∧ ∃ u, w1.heap[w.heap.size + 2]? = some (.cells #[u] 113 (0, 0))) 0 0 W :=
    ⟨x, SameB.refl x, by rw [part_zero]; exact L4.below hb5, (cnt_zero _ _ _).symm, Fr2.refl _ _ _, ⟨_, hcb⟩, E0, ⟨_, hcb⟩⟩
  rw [hW] at h0 key
  rw [← hs4] at h0 key
  have hask := ask_calls (rc := rc) (by simp only; omega) key (.inl rfl) h0
  refine hask.mono ?_
  rintro e w1 ⟨c, ⟨x1, hs, L1', hc, T, _, E, _⟩, rfl⟩
  rw [hs4] at E
  simp only [part_all, cnt_all] at L1' hc
  refine ⟨x1, ?_, hs, ?_, ?_, ?_⟩
  · rw [hc, needM_N _ _ hpos, hf]
  · rw [← hf]; exact L1'
  · rw [← hW] at T
    refine ⟨by have := T.size; omega, fun k hk h1 h2 => (T.keep k (by omega) h1 (by omega)).trans (hb5.block k hk), fun k e => (T.new k e).imp id (fun e => by omega)⟩
  · rw [← hf]; exact E
def lenV : Value → Nat
  | .slice _ n _ => n
  | _ => 0
theorem fr_done {w W0 w1 : World} {x x1 : LB} {p : Nat} (T : Fr2 W0 w1 x x1 (fun k => k = p)) (hk4 : ∀ k, k < w.heap.size → ¬ LF x k → W0.heap[k]? = w.heap[k]?) (hs : w.heap.size ≤ W0.heap.size) (hp : w.heap.size ≤ p) : Stp w w1 (LF x) (LF x1) :=
  ⟨Nat.le_trans hs T.size, fun k hk hS => (T.keep k (by omega) hS (by omega)).trans (hk4 k hk hS), fun k e => (T.new k e).imp id (fun e => by omega)⟩
/-- The replies, as Merge takes them. -/
theorem rep_rows {f : S3 → Int × S3} {rs : List Bool} {st : List S3} {b0 p1 B k : Nat} {x1 : LB} {w1 : World} (h : RepE f rs st b0 p1 B k x1 w1) : ∃ A c, w1.cell? ⟨p1, 0, none⟩ = some (.slice A (reps f rs st k).length c) ∧ (Kd.slice 77 KC).C w1 A (reps f rs st k).length (reps f rs st k) := by
  obtain ⟨vrep, ds, h1, h2, h3, h4⟩ := h
  obtain ⟨A, c, hv, hc, hm⟩ := h2.slice
  rw [← h3]
  simp only [List.length_map] at hv hc ⊢
  refine ⟨A, c, ((blk_cell h1 0).trans rfl).trans (congrArg some hv), by rw [List.length_map], by omega, fun h0 => ?_⟩
  obtain ⟨d0, hd0⟩ : ∃ d, ds[0]? = some d := ⟨_, List.getElem?_eq_getElem h0⟩
  obtain ⟨g, hA, _, _⟩ := h2.cellAt hv 0 d0.v (by rw [List.getElem?_map, hd0]; rfl)
  refine ⟨_, hA, fun j p hj => ?_⟩
  rw [List.getElem?_map] at hj
  cases hd : ds[j]? with
  | none => rw [hd] at hj; cases hj
  | some d =>
    rw [hd] at hj
    obtain rfl := Option.some.inj hj
    obtain ⟨q1, q2⟩ := h4 d (List.mem_of_getElem? hd)
    refine ⟨[d.v], rfl, ⟨d.A, d.c, rfl, q1, Kd.F_now q2⟩, fun i u hu => ?_⟩
    obtain ⟨rfl, rfl⟩ : i = 0 ∧ u = d.v := by
      cases i with
      | zero => exact ⟨rfl, by simpa using hu.symm⟩
      | succ i => simp at hu
    obtain ⟨g', hA', hc', _⟩ := h2.cellAt hv j d.v (by rw [List.getElem?_map, hd]; rfl)
    rw [hA] at hA'
    injection hA' with hA'
    injection hA' with hg
    subst hg
    show w1.cell? ((⟨g, 0, none⟩ : Addr).add (j * 1 + 0)) = _
    rw [add_plain]; simpa using hc'
set_option maxRecDepth 1000000 in
set_option maxHeartbeats 16000000 in
theorem lopen_calls {w0 w : World} {x : LB} {room : Int} {s : LS} (L : Lg w0 w x room s) (hne : s.st ≠ []) (hep : 0 ≤ s.ep ∧ s.ep ≤ 1000000) (RA : Option Addr) (rc : Nat) (rs : List Bool) (hR : Kd.F Kd.bool w (fun k => ¬ LF x k) RA rs.length rs) :
    Calls Tryz.prog 11 #[.pointer (some ⟨x.lg, 0, none⟩), .slice RA rs.length rc] w (OpP w0 w x room (openF room rs s)) := by
  obtain ⟨hs1, hk4, hs4, b0, hask⟩ := open_start L hne RA rc rs hR
  obtain ⟨hep0, hep1⟩ := hep
  have hlg := (Array.getElem?_eq_some_iff.1 L.blk).1
  obtain ⟨_, _, a2, a3, _, af⟩ := L.cells
  have af2 := af 2
  have af3 := af 3
  have HX := Lib.hid (And.intro L (And.intro hk4 (And.intro hs4 (And.intro b0 hR))))
  have HNE := Lib.hid hne
  obtain ⟨ep, hepE⟩ : ∃ ep, ep = s.ep := ⟨_, rfl⟩
  rw [← hepE] at a3 hep0 hep1
  have HEP := Lib.hid hepE
  unfold setW at hask
  by_cases hq : needN s.st.length ≤ askN (fun t => sealR room t (s.ep + 1)) rs s.st
  · rw [decide_eq_true hq] at hask
    have HASK := Lib.hid hask
    rw [← hepE] at HASK
    have HQ := Lib.hid hq
    clear L hk4 hs4 b0 hask hR hne hs1 af hepE hq
    go_enter Tryz.func11, Tryz.ntmps11
    go_wp2_with fail
    refine HASK.out.mono ?_
    rintro e w1 ⟨x1, rfl, hs, L1, T, E⟩
    obtain ⟨rp, hrp⟩ : ∃ rp, rp = repF (fun t => sealR room t (s.ep + 1)) rs s.st := ⟨_, rfl⟩
    rw [← HEP.out] at hrp
    obtain ⟨A1, c1, hp1, hC1⟩ := rep_rows E
    rw [reps_all, ← hrp] at hp1 hC1
    have hfine : ∀ t ∈ askSt (fun t => sealR room t (ep + 1)) rs s.st, Fine t := fun t ht => L1.fine ht
    have hmr := rep_rng (f := fun t => sealR room t (ep + 1)) (rs := rs) hfine
    have hmm := merge_rng (f := fun t => sealR room t (ep + 1)) (rs := rs) hfine
    have hfl := rep_flat (f := fun t => sealR room t (ep + 1)) (rs := rs) hfine (by have h1 := L1.len; have h2 := L1.few; simp only [askSt_len] at h1; omega)
    rw [← hrp] at hmr hmm hfl
    have hmg := QuorM.merge_calls rp A1 c1 w1 hC1 (fun l hl c hc => by
      have := hmr l hl c hc
      exact ⟨w64_of (by omega) (by omega), by omega⟩) hfl
    have HL1 := Lib.hid (And.intro hs (And.intro L1 (And.intro T hrp)))
    have HMM := Lib.hid hmm
    obtain ⟨rl, hrl⟩ : ∃ rl, rl = rp.length := ⟨_, rfl⟩
    rw [← hrl] at hp1 hmg
    clear hs L1 T E hrp hC1 hfine hmr hmm hfl a2 a3 af2 af3 hlg hrl
    go_wp2_with fail
    refine hmg.mono ?_
    rintro e w2 ⟨v, out, rfl, hK, hO, hout, hb2⟩
    obtain ⟨A2, c2, rfl⟩ := Kd.R_slice hK
    obtain ⟨_, hc2, hC2⟩ := Kd.R_reads' hK
    obtain ⟨m, hm⟩ : ∃ m, m = out.length := ⟨_, rfl⟩
    rw [← hm] at hC2 hc2 ⊢
    have HK := Lib.hid (And.intro hC2 (And.intro (fun z hz => row_of_R (hO z hz)) (And.intro hout hb2)))
    have HM := Lib.hid hm
    have hml : m ≤ 4096 := by
      rw [hm]
      have hs := sorted_merge rp.flatten
      rw [← hout] at hs
      have h1 := nodup_le 4096 (out.map C4.at_) ?_ ?_
      · rwa [List.length_map] at h1
      · rw [List.pairwise_map] at hs ⊢
        exact hs.imp fun h => by have h' : (_ : C4).at_ < (_ : C4).at_ := h; omega
      · intro y hy
        obtain ⟨z, hz, rfl⟩ := List.mem_map.1 hy
        have := (HMM.out z.c3 (by rw [← hout]; exact List.mem_map_of_mem hz)).1
        have e : z.c3.1 = z.at_ := rfl
        omega
    clear hK hO hout hb2 hC2 hc2 hm hmg hp1
    go_wp2_with fail
    go_loopw [6, 31] (fun v i wr => ∃ (k : Nat), k ≤ m ∧ i = .int .i64 k ∧ RI w2 w1.heap.size wr v (rowF ((out.map C4.c3).take k) [])) (fun _ i _ => m - (intOf i).toNat)
    case atStart => exact ⟨0, Nat.zero_le _, rfl, RI.start _ _⟩
    case round =>
      obtain ⟨k, hk, rfl, hI⟩ := hrel
      rename World => wr
      by_cases hlt : k < m
      · have hlti : (k : Int) < (m : Int) := by omega
        have hk0 : (0 : Int) ≤ (k : Int) := by omega
        obtain ⟨ad, z, rfl, hz, d0, d1, d2⟩ := at_K4 (Kd.C_below HK.out.1 hI.2.1) k (by omega)
        obtain ⟨Av, cv, rfl⟩ := hI.slice
        have HI := Lib.hid (And.intro hI hz)
        clear hI hz
        have hzm : z ∈ out := List.mem_of_getElem? HI.out.2
        have hzr := HMM.out z.c3 (by rw [← HK.out.2.2.1]; exact List.mem_map_of_mem hzm)
        have hza0 : 0 ≤ z.at_ := hzr.1.1
        have hza1 : z.at_ ≤ 4095 := hzr.1.2
        obtain ⟨n0, hn0⟩ : ∃ n0, n0 = (rowF ((out.map C4.c3).take k) []).length := ⟨_, rfl⟩
        have hn0l : n0 ≤ 4096 := by
          rw [hn0]
          have hs := sorted_merge rp.flatten
          rw [← HK.out.2.2.1] at hs
          exact (rowF_len _ (hs.sublist (List.take_sublist _ _)) fun c hc => (HMM.out c (by rw [← HK.out.2.2.1]; exact List.mem_of_mem_take hc)).1).1
        rw [← hn0]
        have HN0 := Lib.hid hn0
        have HZ := Lib.hid hzr
        have hIW : RI w2 w1.heap.size (wr.alloc (.cells #[.int .i64 z.at_, .int .i64 z.ep, .slice z.A z.by_.length z.c] 77)) (.slice Av n0 cv) (rowF ((out.map C4.c3).take k) [] ++ List.replicate 0 []) := by
          rw [hn0, List.replicate_zero, List.append_nil]; exact HI.out.1.below ((Below.refl _ _).alloc (Nat.le_refl _) _)
        have hpn : ∀ q, (Value.slice Av n0 cv).ownBlock = some q → q ≠ wr.heap.size := fun q e => by
          rw [hn0] at e
          have := (HI.out.1.1.lt e).2.1; omega
        have hpb := heap_alloc_new wr (.cells #[.int .i64 z.at_, .int .i64 z.ep, .slice z.A z.by_.length z.c] 77)
        have HW := Lib.hid (And.intro hIW (And.intro hpb hpn))
        clear hzm hzr hIW hpb hpn hn0
        go_wp2_with fail
        go_loopw [6] (fun v wx => ∃ (A : Option Addr) (c j : Nat), v = .slice A (n0 + j) c ∧ ((n0 + j : Nat) : Int) ≤ max (n0 : Int) z.at_ ∧ RI w2 w1.heap.size wx (.slice A (n0 + j) c) (rowF ((out.map C4.c3).take k) [] ++ List.replicate j []) ∧ wx.heap[wr.heap.size]? = some (.cells #[.int .i64 z.at_, .int .i64 z.ep, .slice z.A z.by_.length z.c] 77 (0, 0)) ∧ ∀ q, (Value.slice A (n0 + j) c).ownBlock = some q → q ≠ wr.heap.size) (fun v _ => z.at_.toNat - lenV v)
        case atStart => exact ⟨Av, cv, 0, rfl, by omega, HW.out⟩
        case round =>
          obtain ⟨A, c, j, rfl, hj, hI, hp, hq⟩ := hrel
          rename World => wx
          have p0 : wx.cell? ⟨wr.heap.size, 0, none⟩ = some (.int .i64 z.at_) := (blk_cell hp 0).trans rfl
          have p2 : wx.cell? ⟨wr.heap.size, 2, none⟩ = some (.slice z.A z.by_.length z.c) := (blk_cell hp 2).trans rfl
          have hal : (rowF ((out.map C4.c3).take k) [] ++ List.replicate j []).length = n0 + j := by rw [List.length_append, List.length_replicate, HN0.out]
          have hwr : wr.heap.size < wx.heap.size := (Array.getElem?_eq_some_iff.1 hp).1
          by_cases hl2 : ((n0 + j : Nat) : Int) < z.at_
          · obtain ⟨A5, c5, w5, hrun, hI5, hk5, ho5⟩ := hI.push HK.out.2.2.2.size ⟨none, 0, []⟩ (Row.nil _ _ _) (by rw [hal]; omega)
            rw [hal] at hrun hI5
            have hp5 := (hk5 _ hwr (fun e => hq _ e rfl)).trans hp
            rw [hal] at ho5
            have ho6 : ∀ q, (Value.slice A5 (n0 + j + 1) c5).ownBlock = some q → q ≠ wr.heap.size := fun q e => by
              rcases ho5 q e with r | r
              · exact hq q r
              · omega
            have HRun := Lib.hid hrun
            have HF := Lib.hid (And.intro hI5 (And.intro hp5 ho6))
            clear hI hp hq hrun hI5 hk5 ho5 hp5 ho6 hal p2
            go_wp2_with (at_builtin; refine wp_append_run rfl _ _ 22 (by rfl) _ _ _ (by rfl) (by rfl) HRun.out ?_)
            go_roundw
            case rel =>
              refine ⟨A5, c5, j + 1, rfl, by omega, ?_, HF.out.2⟩
              rw [List.replicate_succ', ← List.append_assoc]
              exact HF.out.1
            case measure => simp only [lenV]; omega
          · have hge : z.at_ ≤ ((n0 + j : Nat) : Int) := by omega
            have hOz := HK.out.2.1 z (List.mem_of_getElem? HI.out.2)
            have hb2x := hI.2.1
            obtain ⟨A5, c5, w5, hrun, hI5, hk5, _⟩ := hI.push HK.out.2.2.2.size ⟨z.A, z.c, z.by_⟩ (hOz.below hb2x) (by rw [hal]; omega)
            rw [hal] at hrun hI5
            have hrow : rowF ((out.map C4.c3).take k) [] ++ List.replicate j [] ++ [z.by_] = rowF ((out.map C4.c3).take (k + 1)) [] := by
              have e : (out.map C4.c3)[k]? = some z.c3 := by rw [List.getElem?_map, HI.out.2]; rfl
              rw [take_snoc'' e, rowF_snoc]
              show _ = padTo z.at_.toNat _ ++ [z.by_]
              unfold padTo
              have : j = z.at_.toNat - (rowF ((out.map C4.c3).take k) []).length := by rw [← HN0.out]; omega
              rw [← this]
            simp only at hI5
            rw [hrow] at hI5
            have HRun := Lib.hid hrun
            have HF := Lib.hid hI5
            clear hI hp hq hrun hI5 hk5 hal hOz hb2x hrow
            go_wp2_with (at_builtin; refine wp_append_run rfl _ _ 22 (by rfl) _ _ _ (by rfl) (by rfl) HRun.out ?_)
            go_roundw
            case rel => exact ⟨k + 1, by omega, by go_num, HF.out⟩
            case measure => simp only [intOf]; omega
      · obtain rfl : k = m := by omega
        obtain ⟨row, hrow⟩ : ∃ row, row = rowF (mergeM rp.flatten) [] := ⟨_, rfl⟩
        have hI2 : RI w2 w1.heap.size wr u6 row := by
          rw [hrow, ← HK.out.2.2.1]
          rw [List.take_of_length_le (by rw [List.length_map, HM.out]; exact Nat.le_refl _)] at hI
          exact hI
        obtain ⟨hs, L1, T, hrp⟩ := HL1.out
        obtain ⟨L, hk4, hs4, b0, hR⟩ := HX.out
        have hb12 := HK.out.2.2.2
        have hb1r : Below w1.heap.size w1 wr := below_then hb12 hb12.size hI2.2.1
        have Lr := L1.below hb1r
        have hrk : RowOK row := by rw [hrow]; exact rowF_ok _ _ (fun b hb => by cases hb) (fun c hc => (HMM.out c hc).2)
        have hrl : row.length ≤ 4096 := by rw [hrow]; exact (rowF_len _ (sorted_merge rp.flatten) (fun c hc => (HMM.out c hc).1)).1
        have hnew : ∀ j, w1.heap.size ≤ j → ¬ LF x1 j := fun j hj e => by have := (L1.lf_lt e).2; omega
        have hRB : RowB wr w0.heap.size (fun j => ¬ LF x1 j) u6 row := (hI2.1.turn (fun _ _ _ _ => rfl) (fun j hj _ => hnew j hj)).lower L1.base.size
        have hvb : ∀ j, u6.ownBlock = some j → ¬ LF x1 j := fun j hj => hnew j (Nat.le_trans hb12.size (hI2.2.2 j hj))
        obtain ⟨Ar, cr, hv6⟩ := hI2.slice
        subst hv6
        have T' : Fr2 ((setW w x.lg (s.ep + 1)).alloc (.cells #[.slice none 0 0] 69)) w1 x x1 (fun k => k = w.heap.size + 1) := by rw [← HEP.out]; exact T
        have hTw : Stp w wr (LF x) (LF x1) := (fr_done T' hk4 (by omega) (by omega)).trans (Stp.of_below _ hb1r)
        have hbx : wr.heap[w.heap.size]? = some (.cells #[.pointer (some ⟨x.lg, 0, none⟩)] 25 (0, 0)) := (hb1r.block _ (by have := T'.size; omega)).trans ((T'.keep _ (by omega) (fun e => by have := (L.lf_lt e).2; omega) (by omega)).trans b0)
        have hnx : ¬ LF x1 w.heap.size := fun e => by
          rcases T'.new _ e with e | e
          · have := (L.lf_lt e).2; omega
          · omega
        obtain ⟨st1, hst1⟩ : ∃ st1, st1 = askSt (fun t => sealR room t (ep + 1)) rs s.st := ⟨_, rfl⟩
        rw [← hst1] at Lr
        have hst0 : st1 ≠ [] := by
          intro e
          have := askSt_len (fun t => sealR room t (ep + 1)) rs s.st
          rw [← hst1, e] at this
          exact HNE.out (List.eq_nil_of_length_eq_zero this.symm)
        have HOF : Hid (openF room rs s = if (writesF room (ep + 1) rs 0 row st1).1 then (0, ⟨(writesF room (ep + 1) rs 0 row st1).2, true, ep + 1, row⟩) else (8, ⟨(writesF room (ep + 1) rs 0 row st1).2, false, ep + 1, s.row⟩)) := Lib.hid (by
          unfold openF
          rw [if_pos HQ.out, ← HEP.out, ← hrp, ← hrow, ← hst1])
        have HW2 : Hid (∀ q, (Value.slice Ar row.length cr).ownBlock = some q → w.heap.size ≤ q) := Lib.hid fun q e => by
          have h1 := hI2.2.2 q e; have h2 := hb12.size; have h3 := T'.size; omega
        have HS0 := Lib.hid (And.intro hs (And.intro hTw (And.intro hnx (And.intro hR (And.intro hrk hrl)))))
        have HI0 := Lib.hid (And.intro Lr (And.intro hRB (And.intro hvb (And.intro hbx hst0))))
        obtain ⟨rn, hrn⟩ : ∃ rn, rn = row.length := ⟨_, rfl⟩
        have HRN := Lib.hid hrn
        rw [← hrn] at hrl
        clear hI hI2 hs L1 T T' hrp L hk4 hs4 b0 hR hb12 hb1r Lr hrk hnew hRB hvb hTw hbx hnx hst1 hst0 hrow
        rw [← hrn]
        clear hrn
        go_wp2_with fail
        go_loopw [51] (fun i wx => ∃ (j : Nat) (xk : LB) (stk : List S3), j ≤ rn ∧ i = .int .i64 j ∧ SameB x1 xk ∧ Lg w0 wx xk room ⟨stk, false, ep + 1, s.row⟩ ∧ RowB wx w0.heap.size (fun q => ¬ LF xk q) (.slice Ar row.length cr) row ∧ (∀ q, (Value.slice Ar row.length cr).ownBlock = some q → ¬ LF xk q) ∧
            writesF room (ep + 1) rs 0 row st1 = writesF room (ep + 1) rs j (row.drop j) stk ∧ Stp wr wx (LF x1) (LF xk) ∧ wx.heap[w.heap.size]? = some (.cells #[.pointer (some ⟨x.lg, 0, none⟩)] 25 (0, 0)) ∧ stk ≠ []) (fun i _ => rn - (intOf i).toNat)
        case atStart => exact ⟨0, x1, st1, Nat.zero_le _, rfl, SameB.refl _, HI0.out.1, HI0.out.2.1, HI0.out.2.2.1, by rw [List.drop_zero], Stp.refl _ _, HI0.out.2.2.2.1, HI0.out.2.2.2.2⟩
        case round =>
          obtain ⟨j, xk, stk, hj, rfl, hsk, Lk, hRk, hvk, hwk, hTk, hbk, hne⟩ := hrel
          rename World => wx
          have c0 : wx.cell? ⟨w.heap.size, 0, none⟩ = some (.pointer (some ⟨x.lg, 0, none⟩)) := (blk_cell hbk 0).trans rfl
          by_cases hlt2 : j < rn
          · have hlti2 : (j : Int) < (rn : Int) := by omega
            have hj0 : (0 : Int) ≤ (j : Int) := by omega
            obtain ⟨z, hz, hzc, hzF, hzA⟩ := hRk.at_ j (by rw [← HRN.out]; exact hlt2)
            obtain ⟨ad, hAd, d0⟩ := hzA Ar row.length cr rfl
            subst hAd
            have hzr := HS0.out.2.2.2.2.1 z.by_ (List.mem_of_getElem? hz)
            have hlgx : xk.lg = x.lg := hsk.1.trans HS0.out.1.1
            have hTx := HS0.out.2.1.trans hTk
            have hwr := lwrite_calls Lk hne (j : Int) z.A z.c z.by_ RA rc rs hzF hzc hzr.2 (by omega) (F_stp HS0.out.2.2.2.1 hTx)
            rw [hlgx] at hwr
            have hdrop : row.drop j = z.by_ :: row.drop (j + 1) := by
              obtain ⟨hl, he⟩ := List.getElem?_eq_some_iff.1 hz
              rw [List.drop_eq_getElem_cons hl, he]
            rw [hdrop] at hwk
            have hws : writesF room (ep + 1) rs j (z.by_ :: row.drop (j + 1)) stk = if needN stk.length ≤ askN (fun t => writeR room t (ep + 1) j z.by_) rs stk then writesF room (ep + 1) rs (j + 1) (row.drop (j + 1)) (askSt (fun t => writeR room t (ep + 1) j z.by_) rs stk) else (false, askSt (fun t => writeR room t (ep + 1) j z.by_) rs stk) := rfl
            rw [hws] at hwk
            have HJ := Lib.hid (And.intro hsk (And.intro hRk (And.intro hvk (And.intro hwk (And.intro hTk (And.intro hbk hne))))))
            have HLk := Lib.hid Lk
            clear hsk hRk hvk hwk hTk hbk hne hz hzc hzF hzA hzr hTx hdrop hws Lk
            simp only at hwr
            by_cases hq2 : needN stk.length ≤ askN (fun t => writeR room t (ep + 1) j z.by_) rs stk
            · rw [decide_eq_true hq2] at hwr
              rw [if_pos hq2] at HJ
              clear hq2
              go_wp2_with fail
              refine hwr.mono ?_
              rintro e w3 ⟨x3, rfl, hs3, L3, T3⟩
              have HF := Lib.hid (And.intro hs3 (And.intro L3 T3))
              clear hs3 L3 T3 hwr
              go_wp2_with fail
              go_roundw
              case rel =>
                obtain ⟨hsk, hRk, hvk, hwk, hTk, hbk, hne⟩ := HJ.out
                obtain ⟨hs3, L3, T3⟩ := HF.out
                obtain ⟨hR3, hv3⟩ := hRk.stp hvk T3
                have hnb : ¬ LF xk w.heap.size := fun e => by
                  rcases hTk.new _ e with e | e
                  · exact HS0.out.2.2.1 e
                  · have h1 := (Array.getElem?_eq_some_iff.1 HI0.out.2.2.2.1).1
                    omega
                refine ⟨j + 1, x3, _, by omega, by go_num, hsk.trans hs3, L3, hR3, hv3, hwk, hTk.trans T3, (T3.keep _ (Array.getElem?_eq_some_iff.1 hbk).1 hnb).trans hbk, fun e => ?_⟩
                have := askSt_len (fun t => writeR room t (ep + 1) j z.by_) rs stk
                rw [e] at this
                exact hne (List.eq_nil_of_length_eq_zero this.symm)
              case measure => simp only [intOf]; omega
            · rw [decide_eq_false hq2] at hwr
              rw [if_neg hq2] at HJ
              clear hq2
              go_wp2_with fail
              refine hwr.mono ?_
              rintro e w3 ⟨x3, rfl, hs3, L3, T3⟩
              have HF := Lib.hid (And.intro hs3 (And.intro L3 T3))
              clear hs3 L3 T3 hwr
              go_wp2_with fail
              go_ret
              obtain ⟨hsk, hRk, hvk, hwk, hTk, hbk, hne⟩ := HJ.out
              obtain ⟨hs3, L3, T3⟩ := HF.out
              rw [HOF.out, hwk, if_neg (by simp)]
              exact ⟨x3, rfl, (HS0.out.1.trans (hsk.trans hs3)).l, L3, (HS0.out.2.1.trans hTk).trans T3⟩
          · obtain rfl : j = rn := by omega
            have hlgx : xk.lg = x.lg := hsk.1.trans HS0.out.1.1
            have hblk := Lk.blk
            rw [hlgx] at hblk
            have hf2 := blk_frozen hblk 2
            have hf4 := blk_frozen hblk 4
            have k2 := (blk_cell hblk 2).trans rfl
            have k4 := (blk_cell hblk 4).trans rfl
            have hlx := (Array.getElem?_eq_some_iff.1 hblk).1
            have HJ := Lib.hid (And.intro hsk (And.intro Lk (And.intro hRk (And.intro hvk (And.intro hwk (And.intro hTk hlgx))))))
            clear hsk hRk hvk hwk hTk hbk hne Lk hlgx hblk
            go_wp2_with fail
            go_region
            go_wp2_with fail
            go_ret
            obtain ⟨hsk, Lk, hRk, hvk, hwk, hTk, hlgx⟩ := HJ.out
            rw [← HRN.out] at hRk hvk
            have hwk2 : writesF room (ep + 1) rs 0 row st1 = (true, stk) := by
              rw [hwk, List.drop_of_length_le (by rw [HRN.out]; exact Nat.le_refl _)]; rfl
            rw [HOF.out, hwk2, if_pos rfl]
            have hblk := Lk.blk
            rw [hlgx] at hblk
            have hbl4 := heap_setCell_same wx x.lg 4 _ 63 (.slice Ar j cr) hblk
            have hbl2 := heap_setCell_same (wx.setCell ⟨x.lg, 4, none⟩ (.slice Ar j cr)) x.lg 2 _ 63 (.bool true) hbl4
            have hlow := Lk.low
            rw [hlgx] at hlow
            have hoth : ∀ k, k ≠ x.lg → (((wx.setCell ⟨x.lg, 4, none⟩ (.slice Ar j cr)).setCell ⟨x.lg, 2, none⟩ (.bool true)).drew).heap[k]? = wx.heap[k]? := fun k hk => (set_other _ hk).trans (set_other _ hk)
            have hsz : wx.heap.size ≤ (((wx.setCell ⟨x.lg, 4, none⟩ (.slice Ar j cr)).setCell ⟨x.lg, 2, none⟩ (.bool true)).drew).heap.size := by
              show wx.heap.size ≤ ((wx.setCell ⟨x.lg, 4, none⟩ (.slice Ar j cr)).setCell ⟨x.lg, 2, none⟩ (.bool true)).heap.size
              simp
            have hfin := open_fin (w' := ((wx.setCell ⟨x.lg, 4, none⟩ (.slice Ar j cr)).setCell ⟨x.lg, 2, none⟩ (.bool true)).drew) Lk hRk hvk HS0.out.2.2.2.2.1 HS0.out.2.2.2.2.2 (below_set (below_set Lk.base hlow) hlow).drew hsz (fun k hk => hoth k (by rw [← hlgx]; exact hk)) (by rw [hlgx]; exact hbl2)
            have hTx := HS0.out.2.1.trans hTk
            have hlgl : LF x x.lg := .inl (.inl rfl)
            refine ⟨{ xk with vr := .slice Ar j cr }, rfl, ⟨hlgx, (hsk.l.2.1).trans HS0.out.1.l.2.1, (hsk.l.2.2.1).trans HS0.out.1.l.2.2.1, (hsk.l.2.2.2).trans HS0.out.1.l.2.2.2⟩, hfin, ⟨Nat.le_trans hTx.size hsz, fun k hk hS => (hoth k (fun e => hS (e ▸ hlgl))).trans (hTx.keep k hk hS), fun k e => ?_⟩⟩
            rcases e with e | e
            · exact hTx.new k (.inl e)
            · refine .inr ?_
              have := HW2.out k (by rw [← HRN.out]; exact e.symm)
              omega
  · rw [decide_eq_false hq] at hask
    have HASK := Lib.hid hask
    rw [← hepE] at HASK
    have hF : openF room rs s = (8, ⟨askSt (fun t => sealR room t (s.ep + 1)) rs s.st, false, s.ep + 1, s.row⟩) := by unfold openF; rw [if_neg hq]
    have HF := Lib.hid hF
    clear L hk4 hs4 b0 hask hR hne hs1 af hepE hq hF
    go_enter Tryz.func11, Tryz.ntmps11
    go_wp2_with fail
    refine HASK.out.mono ?_
    rintro e w1 ⟨x1, rfl, hs, L1, T, E⟩
    have HZ := Lib.hid (And.intro hs (And.intro L1 T))
    clear hs L1 T E
    go_wp2_with fail
    go_ret
    obtain ⟨hs, L1, T⟩ := HZ.out
    obtain ⟨L, hk4, hs4, b0, hR⟩ := HX.out
    rw [HF.out]
    obtain rfl := HEP.out
    unfold setW at hk4 hs4
    exact ⟨x1, rfl, hs.l, L1, fr_done T hk4 (by omega) (by omega)⟩
end Go.Proofs.YtiinelmednbpmaaGreat.Slog
/- The walks of Len, Epoch, Get, and of a nil log's methods. -/
namespace Go.Proofs.YtiinelmednbpmaaGreat.Slog
open Go.RowKit Go.Maps Go.Proofs.YtiinelmednbpmaaGreatW.PrintWords Go.Proofs.YtiinelmednbpmaaGreatW.PrintMore Go.Proofs.YtiinelmednbpmaaGreat.Row Go.Proofs.YtiinelmednbpmaaGreat.Cut Go.Proofs.YtiinelmednbpmaaGreat.DiskM Go.Proofs.YtiinelmednbpmaaGreat.Quor Go.Proofs.YtiinelmednbpmaaGreat.Slot
open Go.Proofs.YtiinelmednbpmaaGreat.Pack (append_u8 empty_row)
open Go.Proofs.YtiinelmednbpmaaGreat.Crc (KB)
set_option maxHeartbeats 1000000 in
theorem len_calls {w0 w : World} {x : LB} {room : Int} {s : LS} (L : Lg w0 w x room s) : Calls Tryz.prog 25 #[.pointer (some ⟨x.lg, 0, none⟩)] w fun e w' => e = .returned (.int .i64 s.row.length) ∧ w = w' := by
  obtain ⟨A, c, hv, _, _⟩ := L.row.reads
  have c4 := L.cells.2.2.2.2.1
  rw [hv] at c4
  clear L hv
  generalize s.row.length = n at *
  go_enter Tryz.func25, Tryz.ntmps25
  go_wp2
  go_ret
  exact ⟨rfl, rfl⟩
set_option maxHeartbeats 1000000 in
theorem lepoch_calls {w0 w : World} {x : LB} {room : Int} {s : LS} (L : Lg w0 w x room s) : Calls Tryz.prog 15 #[.pointer (some ⟨x.lg, 0, none⟩)] w fun e w' => e = .returned (.int .i64 s.ep) ∧ w = w' := by
  have c3 := L.cells.2.2.2.1
  clear L
  go_enter Tryz.func15, Tryz.ntmps15
  go_wp2
  go_ret
  exact ⟨rfl, rfl⟩
def GetP (w : World) (b : List Int) (e : Ending) (w' : World) : Prop := ∃ A c, e = .returned (.tuple #[.slice A b.length c, .int .i64 0]) ∧ Row w' w.heap.size 5 (.slice A b.length c) (nums .u8 b) ∧ Below w.heap.size w w'
set_option maxRecDepth 100000 in
set_option maxHeartbeats 2000000 in
theorem get_calls {w0 w : World} {x : LB} {room : Int} {s : LS} (L : Lg w0 w x room s) (i : Nat) (b : List Int) (hi : s.row[i]? = some b) : Calls Tryz.prog 24 #[.pointer (some ⟨x.lg, 0, none⟩), .int .i64 i] w (GetP w b) := by
  have hil := (List.getElem?_eq_some_iff.1 hi).1
  obtain ⟨z, hz, hzc, hzF, hzA⟩ := L.row.at_ i hil
  rw [hi] at hz
  obtain rfl : b = z.by_ := by injection hz
  obtain ⟨A, c, hv, _, _⟩ := L.row.reads
  obtain ⟨ad, rfl, d0⟩ := hzA _ _ _ hv
  have c4 := L.cells.2.2.2.2.1
  have hb := (L.rng.2 z.by_ (List.mem_of_getElem? hi)).1
  have hrl := L.rng.1
  rw [hv] at c4
  have hln := len_calls L
  have hbw := (Below.refl w.heap.size w).alloc (Nat.le_refl _) (.cells #[] 5)
  have hl4 := (L.below hbw).cells.2.2.2.2.1
  rw [hv] at hl4
  have d4 : (w.alloc (.cells #[] 5)).cell? (ad.add i) = some z.v := cell_step (grown_of_below hbw) d0 (by simp)
  obtain ⟨A3, c3, w3, hrun, hrow, hgr, _⟩ := append_u8 (w.alloc (.cells #[] 5)) w.heap.size _ [] (empty_row w w.heap.size (Nat.le_refl _)) z.A z.c z.by_ (Kd.C_below (Kd.F_now hzF) hbw) (by simp; omega) (by simp)
  simp only [List.length_nil, Nat.zero_add, List.nil_append] at hrun hrow hgr
  have hb23 : Below w.heap.size w w3 := hbw.grown hgr (by simp) (fun k hk => by
    have hk' : k = w.heap.size := by simpa [Value.ownBlock] using hk.symm
    omega)
  have HRun := Lib.hid hrun; have HF := Lib.hid (And.intro hrow hb23)
  generalize s.row.length = n at *
  have hin : (i : Int) < (n : Int) := by omega
  have hi0 : (0 : Int) ≤ (i : Int) := by omega
  obtain ⟨zl, hzl⟩ : ∃ zl, zl = z.by_.length := ⟨_, rfl⟩
  have e : z.v = .slice z.A zl z.c := by rw [hzl]
  rw [e] at d0 d4
  rw [← hzl] at HRun hb
  have HZ := Lib.hid hzl
  clear L hi hz hzc hzF hzA hv hbw hrun hrow hgr hb23 hzl e
  go_enter Tryz.func24, Tryz.ntmps24
  go_wp2_with (first
    | (go_at_call 25; refine hln.mono ?_; rintro e w' ⟨rfl, rfl⟩)
    | (at_builtin; refine wp_append_run rfl _ _ 32 (by rfl) _ _ _ (by rfl) (by rfl) HRun.out ?_))
  go_ret2
  obtain rfl := HZ.out
  exact ⟨A3, c3, rfl, HF.out⟩
/- A nil log. -/
set_option maxHeartbeats 1000000 in
theorem len_nil (w : World) : Calls Tryz.prog 25 #[.pointer none] w fun e w' => e = .returned (.int .i64 0) ∧ w = w' := by
  go_enter Tryz.func25, Tryz.ntmps25
  go_wp2
  go_ret
  exact ⟨rfl, rfl⟩
set_option maxHeartbeats 1000000 in
theorem lepoch_nil (w : World) : Calls Tryz.prog 15 #[.pointer none] w fun e w' => e = .returned (.int .i64 0) ∧ w = w' := by
  go_enter Tryz.func15, Tryz.ntmps15
  go_wp2
  go_ret
  exact ⟨rfl, rfl⟩
set_option maxHeartbeats 1000000 in
theorem append_nil' (w : World) (v r : Value) : Calls Tryz.prog 12 #[.pointer none, v, r] w fun e w' => e = .returned (.tuple #[.int .i64 0, .int .i64 8]) ∧ w = w' := by
  go_enter Tryz.func12, Tryz.ntmps12
  go_wp2
  go_ret2
  exact ⟨rfl, rfl⟩
set_option maxHeartbeats 1000000 in
theorem open_nil (w : World) (r : Value) : Calls Tryz.prog 11 #[.pointer none, r] w fun e w' => e = .returned (.int .i64 8) ∧ Below w.heap.size w w' := by
  have hb := (Below.refl w.heap.size w).alloc (Nat.le_refl _) (.cells #[.pointer none] 25)
  have HB := Lib.hid hb
  clear hb
  go_enter Tryz.func11, Tryz.ntmps11
  go_wp2
  go_ret
  exact ⟨rfl, HB.out⟩
set_option maxHeartbeats 1000000 in
theorem get_nil (w : World) (i : Int) : Calls Tryz.prog 24 #[.pointer none, .int .i64 i] w fun e w' => e = .returned (.tuple #[.slice none 0 0, .int .i64 2]) ∧ w = w' := by
  by_cases h : i < 0
  · go_enter Tryz.func24, Tryz.ntmps24
    go_wp2_with (go_at_call 25; refine (len_nil _).mono ?_; rintro e w' ⟨rfl, rfl⟩)
    go_ret2
    exact ⟨rfl, rfl⟩
  · have h' : 0 ≤ i := by omega
    go_enter Tryz.func24, Tryz.ntmps24
    go_wp2_with (go_at_call 25; refine (len_nil _).mono ?_; rintro e w' ⟨rfl, rfl⟩)
    go_ret2
    exact ⟨rfl, rfl⟩
set_option maxHeartbeats 1000000 in
theorem again_nil (w : World) (i : Int) (f : Value) : Calls Tryz.prog 33 #[.pointer none, .int .i64 i, f] w fun e w' => e = .returned (.int .i64 1) ∧ w = w' := by
  go_enter Tryz.func33, Tryz.ntmps33
  go_wp2
  go_ret
  exact ⟨rfl, rfl⟩
set_option maxHeartbeats 1000000 in
theorem lose_nil (w : World) (i : Int) : Calls Tryz.prog 16 #[.pointer none, .int .i64 i] w fun e w' => e = .returned (.int .i64 1) ∧ w = w' := by
  go_enter Tryz.func16, Tryz.ntmps16
  go_wp2_with (go_at_call 33; refine (again_nil _ _ _).mono ?_; rintro e w' ⟨rfl, rfl⟩)
  go_ret
  exact ⟨rfl, rfl⟩
set_option maxHeartbeats 1000000 in
theorem crash_nil (w : World) (i k t : Int) : Calls Tryz.prog 18 #[.pointer none, .int .i64 i, .int .i64 k, .int .i64 t] w fun e w' => e = .returned (.int .i64 1) ∧ Below w.heap.size w w' := by
  have hb := ((Below.refl w.heap.size w).alloc (Nat.le_refl _) (.cells #[.int .i64 k] 3)).alloc (by simp) (.cells #[.int .i64 t] 3)
  have HB := Lib.hid hb
  clear hb
  go_enter Tryz.func18, Tryz.ntmps18
  go_wp2_with (go_at_call 33; refine (again_nil _ _ _).mono ?_; rintro e w' ⟨rfl, rfl⟩)
  go_ret
  exact ⟨rfl, HB.out⟩
end Go.Proofs.YtiinelmednbpmaaGreat.Slog
/- 'shown' of chapter 10: what its log becomes, by definition. -/
namespace Go.Proofs.YtiinelmednbpmaaGreat.Slog
open Go.Proofs.YtiinelmednbpmaaGreat.Slot Go.Proofs.YtiinelmednbpmaaGreat.Quor
def z3 : LS := zeros 3
def o1 : LS := (openF 1000 [true, true] z3).2
def o2 : LS := (appendF 1000 [7] [true, true] o1).2.2
def o3 : LS := (appendF 1000 [8] [true] o2).2.2
def o4 : LS := (openF 1000 [true, false, true] o3).2
theorem sh1 : (openF 1000 [true, true] z3).1 = 0 := by decide +kernel
theorem sh2 : ((appendF 1000 [7] [true, true] o1).1, (appendF 1000 [7] [true, true] o1).2.1) = (0, 0) := by decide +kernel
theorem sh3 : (appendF 1000 [8] [true] o2).2.1 = 8 := by decide +kernel
theorem sh4 : (openF 1000 [true, false, true] o3).1 = 0 := by decide +kernel
theorem sh5 : (o4.row.length, o4.ep) = (2, 2) := by decide +kernel
theorem ne1 : z3.st ≠ [] ∧ o1.st ≠ [] ∧ o2.st ≠ [] ∧ o3.st ≠ [] := by decide +kernel
theorem ep1 : (0 ≤ z3.ep ∧ z3.ep ≤ 1000000) ∧ (0 ≤ o3.ep ∧ o3.ep ≤ 1000000) := by decide +kernel
theorem sh2a : (appendF 1000 [7] [true, true] o1).1 = 0 := congrArg Prod.fst sh2
theorem sh2b : (appendF 1000 [7] [true, true] o1).2.1 = 0 := congrArg Prod.snd sh2
theorem sh5a : o4.row.length = 2 := congrArg Prod.fst sh5
theorem sh5b : o4.ep = 2 := congrArg Prod.snd sh5
theorem pair_eq {α β : Type} {p : α × β} {a : α} (h : p.1 = a) : p = (a, p.2) := by rw [← h]
theorem pair_eq2 {α β γ : Type} {p : α × β × γ} {a : α} {b : β} (h : p.1 = a) (h2 : p.2.1 = b) : p = (a, b, p.2.2) := by rw [← h, ← h2]
theorem chain : ∃ (a1 a2 a3 a4 : LS) (q : Int), openF 1000 [true, true] (zeros 3) = (0, a1) ∧ appendF 1000 [7] [true, true] a1 = (0, 0, a2) ∧ appendF 1000 [8] [true] a2 = (q, 8, a3) ∧ openF 1000 [true, false, true] a3 = (0, a4) ∧ a4.row.length = 2 ∧ a4.ep = 2 ∧
    (zeros 3).st ≠ [] ∧ a1.st ≠ [] ∧ a2.st ≠ [] ∧ a3.st ≠ [] ∧ (0 ≤ (zeros 3).ep ∧ (zeros 3).ep ≤ 1000000) ∧ 0 ≤ a3.ep ∧ a3.ep ≤ 1000000 :=
  ⟨o1, o2, o3, o4, _, pair_eq sh1, pair_eq2 sh2a sh2b, pair_eq2 rfl sh3, pair_eq sh4, sh5a, sh5b, ne1.1, ne1.2.1, ne1.2.2.1, ne1.2.2.2, ep1⟩
end Go.Proofs.YtiinelmednbpmaaGreat.Slog
/- 'shown' of chapter 10's statements. -/
namespace Go.Proofs.YtiinelmednbpmaaGreat.Slog
open Go.RowKit Go.Maps Go.Proofs.YtiinelmednbpmaaGreatW.PrintWords Go.Proofs.YtiinelmednbpmaaGreatW.PrintMore Go.Proofs.YtiinelmednbpmaaGreat.Row Go.Proofs.YtiinelmednbpmaaGreat.Cut Go.Proofs.YtiinelmednbpmaaGreat.DiskM Go.Proofs.YtiinelmednbpmaaGreat.Quor Go.Proofs.YtiinelmednbpmaaGreat.Slot
theorem lit_F {w : World} {k : IntKind} {g : Nat} {e : TypeId} {ok : Nat → Prop} (xs : List Int) (hb : w.heap[g]? = some (.cells (nums k xs).toArray e (0, 0))) (hg : ok g) (h : xs.length ≤ 9223372036854775807) : Kd.F (Kd.int k) w ok (some ⟨g, 0, none⟩) xs.length xs := by
  intro W hW
  have hb' := (hW g hg (Array.getElem?_eq_some_iff.1 hb).1).trans hb
  refine ⟨rfl, h, fun _ => ⟨_, rfl, fun j p hj => ⟨[.int k p], rfl, rfl, fun i u hu => ?_⟩⟩⟩
  obtain ⟨rfl, rfl⟩ : i = 0 ∧ u = .int k p := by
    cases i with
    | zero => exact ⟨rfl, by simpa using hu.symm⟩
    | succ i => simp at hu
  have e1 : (Kd.int k).sz = 1 := rfl
  rw [e1, Nat.mul_one, Nat.add_zero, add_plain, blk_cell hb']
  simp [nums, hj]
theorem lit_FB {w : World} {g : Nat} {e : TypeId} {ok : Nat → Prop} (xs : List Bool) (hb : w.heap[g]? = some (.cells (xs.map Value.bool).toArray e (0, 0))) (hg : ok g) (h : xs.length ≤ 9223372036854775807) : Kd.F Kd.bool w ok (some ⟨g, 0, none⟩) xs.length xs := by
  intro W hW
  have hb' := (hW g hg (Array.getElem?_eq_some_iff.1 hb).1).trans hb
  refine ⟨rfl, h, fun _ => ⟨_, rfl, fun j p hj => ⟨[.bool p], rfl, rfl, fun i u hu => ?_⟩⟩⟩
  obtain ⟨rfl, rfl⟩ : i = 0 ∧ u = .bool p := by
    cases i with
    | zero => exact ⟨rfl, by simpa using hu.symm⟩
    | succ i => simp at hu
  have e1 : Kd.bool.sz = 1 := rfl
  rw [e1, Nat.mul_one, Nat.add_zero, add_plain, blk_cell hb']
  simp [hj]
set_option maxRecDepth 1000000 in
set_option maxHeartbeats 8000000 in
theorem shown_calls (w : World) : Calls Tryz.prog 9 #[] w fun e w' => e = .returned (.bool true) ∧ Below w.heap.size w w' := by
  obtain ⟨a1, a2, a3, a4, q, h1, h2, h3, h4, h5, h6, n0, n1, n2, n3, ep0, ep3⟩ := chain
  have hnew := lnew_calls (w0 := w) (w := w) (Below.refl _ _) 3 (.inr (.inl rfl)) 1000 (by omega) (by omega)
  obtain ⟨a0, ha0⟩ : ∃ a0, a0 = zeros 3 := ⟨_, rfl⟩
  unfold NewP at hnew
  rw [← ha0] at h1 n0 ep0 hnew
  have H := Lib.hid (And.intro h1 (And.intro h2 (And.intro h3 (And.intro h4 (And.intro h5 h6)))))
  have HN := Lib.hid (And.intro n0 (And.intro n1 (And.intro n2 (And.intro n3 (And.intro ep0 ep3)))))
  clear h1 h2 h3 h4 h5 h6 n0 n1 n2 n3 ep0 ep3 ha0
  go_enter Tryz.func9, Tryz.ntmps9
  go_wp2_with fail
  refine hnew.mono ?_
  rintro e w1 ⟨x, rfl, L, hb1⟩
  have hba := (Below.refl w1.heap.size w1).alloc (Nat.le_refl _) (.cells #[.bool true, .bool true] 4)
  have La := L.below hba
  have hF1 : Kd.F Kd.bool (w1.alloc (.cells #[.bool true, .bool true] 4)) (fun k => ¬ LF x k) (some ⟨w1.heap.size, 0, none⟩) [true, true].length [true, true] := lit_FB [true, true] (heap_alloc_new w1 _) (L.nlt (.inl (Nat.le_refl _))) (by decide)
  have hop := lopen_calls La HN.out.1 HN.out.2.2.2.2.1 _ 2 [true, true] hF1
  rw [H.out.1] at hop
  have HF1 := Lib.hid hF1
  clear hnew L hb1 hba La hF1
  go_wp2_with fail
  refine hop.mono ?_
  rintro e w2 ⟨x2, rfl, hs2, L2, T2⟩
  simp only at L2
  have hF2 := F_stp HF1.out T2
  have hbb := (Below.refl w2.heap.size w2).alloc (Nat.le_refl _) (.cells #[.int .u8 7] 5)
  have hap := lappend_calls (L2.below hbb) HN.out.2.1 _ 1 [7] _ 2 [true, true] (lit_F [7] (heap_alloc_new w2 _) (L2.nlt (.inl (Nat.le_refl _))) (by decide)) (Nat.le_refl _) (by1 _ (by omega)) (by decide) (Kd.F_below hF2 hbb)
  rw [H.out.2.1, hs2.1] at hap
  have HS2 := Lib.hid hs2.1
  clear hop L2 T2 hF2 hs2 hbb HF1
  go_wp2_with fail
  refine hap.mono ?_
  rintro e w3 ⟨x3, rfl, hs3, L3, T3⟩
  simp only at L3
  have hbb := (Below.refl w3.heap.size w3).alloc (Nat.le_refl _) (.cells #[.int .u8 8] 5)
  have hbc := (Below.refl (w3.alloc (.cells #[.int .u8 8] 5)).heap.size (w3.alloc (.cells #[.int .u8 8] 5))).alloc (Nat.le_refl _) (.cells #[.bool true] 4)
  have L4 := (L3.below hbb).below hbc
  have hap2 := lappend_calls L4 HN.out.2.2.1 _ 1 [8] _ 1 [true] (lit_F [8] ((hbc.block _ (by simp)).trans (heap_alloc_new w3 _)) (L3.nlt (.inl (Nat.le_refl _))) (by decide)) (Nat.le_refl _) (by1 _ (by omega)) (by decide) (lit_FB [true] (heap_alloc_new _ _) (L3.nlt (.inl hbb.size)) (by decide))
  have hsz3 : (w3.alloc (.cells #[.int .u8 8] 5)).heap.size = w3.heap.size + 1 := by simp
  rw [H.out.2.2.1, hs3.1, HS2.out, hsz3] at hap2
  have HS3 := Lib.hid (hs3.1.trans HS2.out)
  clear hap L3 T3 hs3 hbb hbc L4 hsz3
  go_wp2_with fail
  refine hap2.mono ?_
  rintro e w5 ⟨x5, rfl, hs5, L5, T5⟩
  simp only at L5
  have hbb := (Below.refl w5.heap.size w5).alloc (Nat.le_refl _) (.cells #[.bool true, .bool false, .bool true] 4)
  have hop := lopen_calls (L5.below hbb) HN.out.2.2.2.1 HN.out.2.2.2.2.2 _ 3 [true, false, true] (lit_FB [true, false, true] (heap_alloc_new w5 _) (L5.nlt (.inl (Nat.le_refl _))) (by decide))
  rw [H.out.2.2.2.1, hs5.1, HS3.out] at hop
  have HS5 := Lib.hid (hs5.1.trans HS3.out)
  clear hap2 L5 T5 hs5 hbb
  go_wp2_with fail
  refine hop.mono ?_
  rintro e w6 ⟨x6, rfl, hs6, L6, T6⟩
  simp only at L6
  have hln := len_calls L6
  have hep := lepoch_calls L6
  rw [H.out.2.2.2.2.1, hs6.1, HS5.out] at hln
  rw [H.out.2.2.2.2.2, hs6.1, HS5.out] at hep
  have HB := Lib.hid L6.base
  clear hop L6 T6 hs6
  go_wp2_with (first
    | (go_at_call 25; refine hln.mono ?_; rintro e w' ⟨rfl, rfl⟩)
    | (go_at_call 15; refine hep.mono ?_; rintro e w' ⟨rfl, rfl⟩))
  go_ret
  exact ⟨rfl, HB.out⟩
end Go.Proofs.YtiinelmednbpmaaGreat.Slog
