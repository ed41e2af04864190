import Derived.Test.YtdfpcldoakbehaaSPay
/- The walk of note: a payload is put, synced, done. -/
namespace Go.Proofs.Ytdfpcldoakbehaa.Slot
open Go.RowKit Go.Maps Go.Proofs.YtdfpcldoakbehaaW.PrintWords Go.Proofs.YtdfpcldoakbehaaW.PrintMore Go.Proofs.Ytdfpcldoakbehaa.Row Go.Proofs.Ytdfpcldoakbehaa.Cut Go.Proofs.Ytdfpcldoakbehaa.DiskM Go.Proofs.Ytdfpcldoakbehaa.Quor
open Go.Proofs.Ytdfpcldoakbehaa.Crc (scanF frameF KB)
section
variable {w0 w w' : World} {n : NB} {room : Int} {bs bs' : List Int} {safe safe' : Nat} {vr' vd' : Value} {ep : Int} {m : List C4}
/-- The row of payloads was turned alone. -/
theorem Nd.turn (h : Nd w0 w n room bs safe ep m) (hS : Sg w0 w' n.sg n.gd vr' vd' room bs' safe') (hst : Stp w w' (SS n.sg n.gd n.vr n.vd) (SS n.sg n.gd vr' vd')) :
    Nd w0 w' { n with vr := vr', vd := vd' } room bs' safe' ep m ∧ Stp w w' (SN n) (SN { n with vr := vr', vd := vd' }) := by
  have hns : ¬ SS n.sg n.gd n.vr n.vd n.gn := fun e => by
    obtain ⟨cs, ty, hc, h1, _⟩ := h.seg.typed e
    exact blk_ne hc h.blk h1 rfl
  have hms : ¬ SS n.sg n.gd n.vr n.vd n.mb := fun e => by
    obtain ⟨cs, ty, hc, _⟩ := h.seg.typed e
    exact h.map_ne hc rfl
  obtain ⟨D, hD, hA⟩ := h.map
  have hmb := hst.keep n.mb hD.lt hms
  refine ⟨⟨hS, h.lown, h.lowm, (hst.keep n.gn (Array.getElem?_eq_some_iff.1 h.blk).1 hns).trans h.blk, ⟨D, ?_, hA⟩, h.once, fun z hz => ?_, h.rng, h.rngc⟩, hst.mono (fun _ e => .inl e) (fun k e => ?_)⟩
  · obtain ⟨es, clock, hb, hF, hs, hDe⟩ := hD
    exact ⟨es, clock, hmb.trans hb, hF, hs, hDe⟩
  · obtain ⟨hr, hv⟩ := h.rows z hz
    have hno : ∀ k, (sl4 z).ownBlock = some k → k < w.heap.size ∧ ¬ SS n.sg n.gd n.vr n.vd k := fun k hk => by
      obtain ⟨_, hlt, cur, hc⟩ := hr.lt k hk
      refine ⟨hlt, fun e => ?_⟩
      obtain ⟨t, hb⟩ := h.seg.blk
      obtain ⟨xs, hrr, _, _⟩ := h.seg.row
      rcases e with e | e | e | e
      · exact blk_ne hc h.seg.disk.blk (by decide) e
      · exact hv k hk e
      · exact blk_ne hc hb (by decide) e
      · obtain ⟨_, _, cur2, hc2⟩ := hrr.lt k e.symm
        exact blk_ne hc hc2 (by decide) rfl
    refine ⟨hr.move fun k hk => hst.keep k (hno k hk).1 (hno k hk).2, fun k hk e => ?_⟩
    rcases hst.new k (.inr (.inl e)) with q | q
    · exact (hno k hk).2 q
    · have := (hno k hk).1
      omega
  · rcases e with e | e | e
    · exact .inr e
    · exact .inl (.inr (.inl e))
    · exact .inl (.inr (.inr e))
end
def NoteP (w0 w : World) (n : NB) (room : Int) (s : S3) (p : List Int) (e : Ending) (w' : World) : Prop :=
  ∃ n' ep' m', e = .returned (.int .i64 0) ∧ n'.gd = n.gd ∧ n'.gn = n.gn ∧ Nd w0 w' n' room (noteF s p).2.2 (noteF s p).2.2.length ep' m' ∧ (ep', m'.map C4.c3, (noteF s p).2.2) = noteF s p ∧ Stp w w' (SN n) (SN n')
set_option maxRecDepth 1000000 in
set_option maxHeartbeats 4000000 in
theorem note_calls {w0 w : World} {n : NB} {room : Int} {bs : List Int} {safe : Nat} {ep : Int} {m : List C4} (N : Nd w0 w n room bs safe ep m) (A : Option Addr) (c : Nat) (l : List Int) (hA : Kd.F (Kd.int .u8) w (fun k => ¬ SN n k) A l.length l) (hc : l.length ≤ c) (hby : ∀ x ∈ l, 0 ≤ x ∧ x ≤ 255) (hl : l.length ≤ 4096) (hfit : ((frameF l).length : Int) ≤ room - bs.length) :
    Calls Try.prog 23 #[.pointer (some ⟨n.gn, 0, none⟩), .slice A l.length c] w (NoteP w0 w n room (ep, m.map C4.c3, bs) l) := by
  obtain ⟨c0, _, _, _⟩ := N.cells
  have hp := sput_calls N.seg A c l (Kd.F_mono hA fun k hk e => hk (.inl e)) hc hby hl hfit
  have HN := Lib.hid N; have HA := Lib.hid hA; have HBy := Lib.hid hby
  clear N hA hby hfit
  go_enter Try.func23, Try.ntmps23
  go_wp2_with fail
  refine hp.mono ?_
  rintro e w1 ⟨rfl, vr1, vd1, hS1, hst1⟩
  obtain ⟨N1, T1⟩ := HN.out.turn hS1 hst1
  obtain ⟨d0, _, _, _⟩ := N1.cells
  simp only at d0
  have hsy := ssync_calls N1.seg
  have HN1 := Lib.hid N1; have HT1 := Lib.hid T1
  clear hp hS1 hst1 N1 T1 c0
  go_wp2_with fail
  refine hsy.mono ?_
  rintro e w2 ⟨rfl, hS2, hst2⟩
  obtain ⟨N2, T2⟩ := HN1.out.turn hS2 hst2
  have hT := HT1.out.trans T2
  have hC2 := HA.out w2 fun k hk hlt => hT.keep k hlt hk
  have hrd := redo_calls N2 A c l hC2 HBy.out (by omega)
  have HT := Lib.hid hT
  clear hsy hS2 hst2 N2 T2 hT hC2 d0
  go_wp2_with fail
  refine hrd.mono ?_
  rintro e w3 ⟨ep', m', rfl, hf, N3, hst3⟩
  have HF := Lib.hid (And.intro hf (And.intro N3 (HT.out.trans (NM.all hst3))))
  clear hrd hf N3 hst3
  go_wp2_with fail
  go_ret
  obtain ⟨hf, N3, hst⟩ := HF.out
  exact ⟨⟨n.gn, n.sg, n.gd, n.mb, vr1, vd1⟩, ep', m', rfl, rfl, rfl, N3, by unfold noteF; rw [← hf], hst⟩
end Go.Proofs.Ytdfpcldoakbehaa.Slot
