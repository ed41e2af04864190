import Derived.Test.YtdfpcldoakbehaaSState
/- The walk of redo: what a payload makes of a node. -/
namespace Go.Proofs.Ytdfpcldoakbehaa.Slot
open Go.RowKit Go.Maps Go.Proofs.YtdfpcldoakbehaaW.PrintWords Go.Proofs.YtdfpcldoakbehaaW.PrintMore Go.Proofs.Ytdfpcldoakbehaa.Row Go.Proofs.Ytdfpcldoakbehaa.Cut Go.Proofs.Ytdfpcldoakbehaa.DiskM Go.Proofs.Ytdfpcldoakbehaa.Quor
open Go.Proofs.Ytdfpcldoakbehaa.Pack (Rdr uintR from_calls uint_calls left_calls)
theorem redo_none {s : Int × List B3} {b : List Int} (h : headR b = none) : redoF s b = s := by unfold redoF; rw [h]
theorem redo_seal {s : Int × List B3} {b r : List Int} {ee : Int} (h : headR b = some ⟨2, ee, r⟩) : redoF s b = if r = [] ∧ s.1 < ee then (ee, s.2) else s := by
  unfold redoF; rw [h]; simp only; rw [if_pos trivial]
theorem redo_other {s : Int × List B3} {b r : List Int} {wh ee : Int} (h : headR b = some ⟨wh, ee, r⟩) (h2 : wh ≠ 2) (h1 : wh ≠ 1) : redoF s b = s := by
  unfold redoF; rw [h]; simp only; rw [if_neg h2, if_neg h1]
theorem redo_c0 {s : Int × List B3} {b r : List Int} {ee : Int} (h : headR b = some ⟨1, ee, r⟩) (hc : cellR r = none) : redoF s b = s := by
  unfold redoF; rw [h]; simp only; rw [if_neg (by decide), if_pos trivial, hc]
theorem redo_c1 {s : Int × List B3} {b r x : List Int} {ee a : Int} (h : headR b = some ⟨1, ee, r⟩) (hc : cellR r = some (a, x)) (he : ee < s.1) : redoF s b = s := by
  unfold redoF; rw [h]; simp only; rw [if_neg (by decide), if_pos trivial, hc]; simp only; rw [if_pos he]
theorem redo_c2 {s : Int × List B3} {b r x : List Int} {ee a : Int} (h : headR b = some ⟨1, ee, r⟩) (hc : cellR r = some (a, x)) (he : ¬ ee < s.1) (hl : look s.2 a = none) : redoF s b = (s.1, putC (a, ee, x) s.2) := by
  unfold redoF; rw [h]; simp only; rw [if_neg (by decide), if_pos trivial, hc]; simp only; rw [if_neg he, hl]
theorem redo_c3 {s : Int × List B3} {b r x : List Int} {ee a : Int} {d : B3} (h : headR b = some ⟨1, ee, r⟩) (hc : cellR r = some (a, x)) (he : ¬ ee < s.1) (hl : look s.2 a = some d) : redoF s b = if d.2.1 < ee then (s.1, putC (a, ee, x) s.2) else s := by
  unfold redoF; rw [h]; simp only; rw [if_neg (by decide), if_pos trivial, hc]; simp only; rw [if_neg he, hl]
theorem row_low {w : World} {base base' : Nat} {e : TypeId} {v : Value} {xs : List Value} (h : Row w base e v xs) (hb : base' ≤ base) : Row w base' e v xs := by
  rcases h with h | ⟨g, c, cur, h1, h2, h3⟩
  · exact .inl h
  · exact .inr ⟨g, c, cur, h1, Nat.le_trans hb h2, h3⟩
/-- The node's own blocks: what redo turns. -/
def NM (n : NB) (k : Nat) : Prop := k = n.gn ∨ k = n.mb
theorem NM.all {w w' : World} {n : NB} (h : Stp w w' (NM n) (NM n)) : Stp w w' (SN n) (SN n) := h.mono (fun _ e => .inr e) (fun _ e => .inl e)
def RedoP (w0 w : World) (n : NB) (room : Int) (bs : List Int) (safe : Nat) (ep : Int) (m : List C4) (b : List Int) (e : Ending) (w' : World) : Prop :=
  ∃ ep' m', e = .returned (.tuple #[]) ∧ (ep', m'.map C4.c3) = redoF (ep, m.map C4.c3) b ∧ Nd w0 w' n room bs safe ep' m' ∧ Stp w w' (NM n) (NM n)
section
variable {w0 w w' : World} {n : NB} {room : Int} {bs : List Int} {safe : Nat} {ep : Int} {m : List C4} {b : List Int}
theorem RedoP.same (N : Nd w0 w n room bs safe ep m) (hb : Below w.heap.size w w') (h : redoF (ep, m.map C4.c3) b = (ep, m.map C4.c3)) : RedoP w0 w n room bs safe ep m b (.returned (.tuple #[])) w' :=
  ⟨ep, m, rfl, h.symm, N.below hb, Stp.of_below _ hb⟩
/-- Behind growth, a block of the node is turned. -/
theorem stp_grown {w1 w2 : World} {k0 : Nat} (hb : Below w.heap.size w w1) (hg : w1.grownBy w2 (some k0)) (hk : NM n k0) : Stp w w2 (NM n) (NM n) :=
  ⟨Nat.le_trans hb.size hg.size, fun k hlt hs => (hg.block k (Nat.lt_of_lt_of_le hlt hb.size) (fun e => hs (by obtain rfl := Option.some.inj e; exact hk))).trans (hb.block k hlt), fun _ h => .inl h⟩
theorem RedoP.put (N : Nd w0 w n room bs safe ep m) {B : Nat} {w2 w3 : World} (hb2 : Below w.heap.size w w2) (hB : w.heap.size ≤ B) {z : C4} (hrow : Row w2 B 5 (sl4 z) (nums .u8 z.by_)) (hb23 : Below w2.heap.size w2 w3)
    (hz : (0 ≤ z.at_ ∧ z.at_ ≤ 4095) ∧ (0 ≤ z.ep ∧ z.ep ≤ 1048576) ∧ z.by_.length ≤ 2048 ∧ ∀ x ∈ z.by_, 0 ≤ x ∧ x ≤ 255) (h : redoF (ep, m.map C4.c3) b = (ep, putC z.c3 (m.map C4.c3))) :
    ∃ w4, (Instr.mapUpdate 54 (.map (some n.mb)) (.int .i64 z.at_) (agg4 z)).run Try.prog w3 = .ok () w4 ∧ RedoP w0 w n room bs safe ep m b (.returned (.tuple #[])) w4 := by
  have hb3 : Below w.heap.size w w3 := below_step hb2 hb23
  have hl : w0.heap.size ≤ B := Nat.le_trans N.seg.disk.below.size hB
  obtain ⟨w4, hrun, hN, hg⟩ := (N.below hb3).put z (row_low (hrow.below hb23) hl) (fun k hk => by
    obtain ⟨h1, _, _⟩ := hrow.lt k hk
    intro e
    have := N.lt (k := k) (.inl (.inr (.inl e)))
    omega) hz
  exact ⟨w4, hrun, ep, put4 z m, rfl, by rw [h, put_map], hN, stp_grown hb3 hg (.inr rfl)⟩
end
set_option maxRecDepth 1000000 in
set_option maxHeartbeats 8000000 in
theorem redo_calls {w0 w : World} {n : NB} {room : Int} {bs : List Int} {safe : Nat} {ep : Int} {m : List C4} (N : Nd w0 w n room bs safe ep m) (A : Option Addr) (c : Nat) (l : List Int) (hC : (Kd.int .u8).C w A l.length l) (hby : ∀ x ∈ l, 0 ≤ x ∧ x ≤ 255) (hl : l.length ≤ 1048576) :
    Calls Try.prog 21 #[.pointer (some ⟨n.gn, 0, none⟩), .slice A l.length c] w (RedoP w0 w n room bs safe ep m l) := by
  have hrg := N.rng
  have HN := Lib.hid N; have HC := Lib.hid hC; have HBy := Lib.hid hby
  clear N hC hby
  go_enter Try.func21, Try.ntmps21
  go_wp2_with fail
  refine (from_calls A l.length c l w rfl (by omega) HC.out).mono ?_
  rintro e w1 ⟨g, rfl, hg, ⟨A1, c1, R1⟩, hb1⟩
  have HR1 := Lib.hid R1; have HB1 := Lib.hid hb1
  clear R1 hb1
  go_wp2_with fail
  refine (uint_calls HR1.out HBy.out).mono ?_
  rintro e w2 ⟨rfl, ⟨A2, c2, R2⟩, G2⟩
  have HB2 := Lib.hid (HB1.out.grown G2 HB1.out.size (fun j hj => by injection hj with hj; omega))
  obtain ⟨l1, hl1⟩ : ∃ l1, l1 = l.drop (uintR l).2.2 := ⟨_, rfl⟩
  have hby1 : ∀ x ∈ l1, 0 ≤ x ∧ x ≤ 255 := fun x hx => HBy.out x (List.mem_of_mem_drop (hl1 ▸ hx))
  have hll1 : l1.length ≤ l.length := by rw [hl1, List.length_drop]; omega
  rw [← hl1] at R2
  have HR2 := Lib.hid R2; have HBy1 := Lib.hid hby1
  have hh : headR l = if (uintR l).2.1 ≠ 0 ∨ (uintR l1).2.1 ≠ 0 ∨ 1048576 < (uintR l1).1 then none else some ⟨(uintR l).1, (uintR l1).1, l1.drop (uintR l1).2.2⟩ := by unfold headR; rw [← hl1]
  obtain ⟨s1, s2, s3⟩ := Crc.uintR_spec l
  obtain ⟨⟨wh, er, u⟩, hu⟩ : ∃ r, uintR l = r := ⟨_, rfl⟩
  rw [hu] at hh s1 s2 s3 ⊢
  simp only at hh s1 s2 s3 ⊢
  have HH := Lib.hid hh
  clear R2 G2 hh hl1 hu hby1
  go_wp2_with fail
  refine (uint_calls HR2.out HBy1.out).mono ?_
  rintro e w3 ⟨rfl, ⟨A3, c3, R3⟩, G3⟩
  have HB3 := Lib.hid (HB2.out.grown G3 HB2.out.size (fun j hj => by injection hj with hj; omega))
  obtain ⟨l2, hl2⟩ : ∃ l2, l2 = l1.drop (uintR l1).2.2 := ⟨_, rfl⟩
  have hby2 : ∀ x ∈ l2, 0 ≤ x ∧ x ≤ 255 := fun x hx => HBy1.out x (List.mem_of_mem_drop (hl2 ▸ hx))
  have hll2 : l2.length ≤ l1.length := by rw [hl2, List.length_drop]; omega
  have hh := HH.out
  rw [← hl2] at R3 hh
  have HR3 := Lib.hid R3; have HBy2 := Lib.hid hby2
  obtain ⟨q1, q2, q3⟩ := Crc.uintR_spec l1
  obtain ⟨⟨ee, er2, u2⟩, hu2⟩ : ∃ r, uintR l1 = r := ⟨_, rfl⟩
  rw [hu2] at hh q1 q2 q3 ⊢
  simp only at hh q1 q2 q3 ⊢
  clear HH R3 G3 hl2 hu2 hby2
  by_cases h1 : er = 0
  · subst h1
    by_cases h2 : er2 = 0
    · subst h2
      by_cases h3 : 1048576 < ee
      · rw [if_pos (.inr (.inr h3))] at hh
        have HH := Lib.hid (redo_none (s := (ep, m.map C4.c3)) hh)
        clear hh
        go_wp2_with fail
        go_end0
        exact RedoP.same HN.out HB3.out HH.out
      · rw [if_neg (fun e => e.elim (fun e => e rfl) (fun e => e.elim (fun e => e rfl) h3))] at hh
        have hN3 := HN.out.below HB3.out
        obtain ⟨d0, d1, d2, df⟩ := hN3.cells
        have hf1 := df 1
        have h3' : decide (1048576 < ee) = false := decide_eq_false h3
        clear df
        by_cases hw2 : wh = 2
        · subst hw2
          have hF := redo_seal (s := (ep, m.map C4.c3)) hh
          have hlf := left_calls HR3.out
          obtain ⟨q, hq⟩ : ∃ q, q = l2.length := ⟨_, rfl⟩
          rw [← hq] at hlf
          by_cases hq0 : q = 0
          · have hl2n : l2 = [] := List.length_eq_zero_iff.1 (by omega)
            have tq : ((q : Int) == 0) = true := beq_iff_eq.2 (by omega)
            by_cases he : ep < ee
            · rw [if_pos ⟨hl2n, he⟩] at hF
              have HF := Lib.hid hF
              have HE := Lib.hid (hN3.epoch ee ⟨q2, by omega⟩)
              have HQ := Lib.hid hq0
              clear hF hh hq hl2n hN3 hq0
              go_wp2_with fail
              refine hlf.mono ?_
              rintro e w4 ⟨rfl, rfl⟩
              clear hlf
              go_wp2_with fail
              go_end0
              exact ⟨ee, m, rfl, by rw [HF.out], HE.out, stp_grown HB3.out (grown_set w3 n.gn 1 _) (.inl rfl)⟩
            · rw [if_neg (fun h => he h.2)] at hF
              have HF := Lib.hid hF
              have HQ := Lib.hid hq0
              clear hF hh hq hl2n hN3 hq0
              go_wp2_with fail
              refine hlf.mono ?_
              rintro e w4 ⟨rfl, rfl⟩
              clear hlf
              go_wp2_with fail
              go_end0
              exact RedoP.same HN.out HB3.out HF.out
          · have hl2n : l2 ≠ [] := fun e => hq0 (by rw [hq, e]; rfl)
            rw [if_neg (fun h => hl2n h.1)] at hF
            have tq : ((q : Int) == 0) = false := beq_eq_false_iff_ne.2 (by omega)
            have HF := Lib.hid hF
            clear hF hh hq hl2n hN3 hq0
            go_wp2_with fail
            refine hlf.mono ?_
            rintro e w4 ⟨rfl, rfl⟩
            clear hlf
            go_wp2_with fail
            go_end0
            exact RedoP.same HN.out HB3.out HF.out
        · have t2 : (wh == 2) = false := beq_eq_false_iff_ne.2 hw2
          by_cases hw1 : wh = 1
          · subst hw1
            have HHd := Lib.hid hh
            clear hh hN3 t2 hw2 d0 d1 d2 hf1
            go_wp2_with fail
            refine (uint_calls HR3.out HBy2.out).mono ?_
            rintro e w4 ⟨rfl, ⟨A4, c4, R4⟩, G4⟩
            have HB4 := Lib.hid (HB3.out.grown G4 HB3.out.size (fun j hj => by injection hj with hj; omega))
            obtain ⟨l3, hl3⟩ : ∃ l3, l3 = l2.drop (uintR l2).2.2 := ⟨_, rfl⟩
            have hby3 : ∀ x ∈ l3, 0 ≤ x ∧ x ≤ 255 := fun x hx => HBy2.out x (List.mem_of_mem_drop (hl3 ▸ hx))
            have hll3 : l3.length ≤ l2.length := by rw [hl3, List.length_drop]; omega
            rw [← hl3] at R4
            have hcr : cellR l2 = if (uintR l2).2.1 ≠ 0 ∨ (bytesR l3).2.1 ≠ 0 ∨ l3.drop (bytesR l3).2.2 ≠ [] ∨ 4096 ≤ (uintR l2).1 ∨ 2048 < (bytesR l3).1.length then none else some ((uintR l2).1, (bytesR l3).1) := by unfold cellR; rw [← hl3]
            have HR4 := Lib.hid R4; have HBy3 := Lib.hid hby3
            obtain ⟨r1, r2, r3⟩ := Crc.uintR_spec l2
            obtain ⟨⟨aa, er3, u3⟩, hu3⟩ : ∃ r, uintR l2 = r := ⟨_, rfl⟩
            rw [hu3] at hcr r1 r2 r3 ⊢
            simp only at hcr r1 r2 r3 ⊢
            have HCR := Lib.hid hcr
            clear R4 G4 hcr hl3 hu3 hby3
            go_wp2_with fail
            refine (rbytes_calls HR4.out HBy3.out (by omega)).mono ?_
            rintro e w5 ⟨v5, rfl, row5, ⟨A6, c6, R5⟩, G5⟩
            have hB5 := HB4.out.grown G5 HB4.out.size (fun j hj => by injection hj with hj; omega)
            have HB5 := Lib.hid hB5
            obtain ⟨p1, p2⟩ := bytesR_spec l3
            have hxb : ∀ x ∈ (bytesR l3).1, 0 ≤ x ∧ x ≤ 255 := by
              intro x hx
              unfold bytesR at hx
              split at hx
              · cases hx
              · split at hx
                · cases hx
                · exact HBy3.out x (List.mem_of_mem_drop (List.mem_of_mem_take hx))
            have hcr := HCR.out
            obtain ⟨⟨x, er4, u4⟩, hu4⟩ : ∃ r, bytesR l3 = r := ⟨_, rfl⟩
            rw [hu4] at hcr p1 p2 row5 R5 hxb ⊢
            simp only at hcr p1 p2 row5 R5 hxb ⊢
            obtain ⟨A5, c5, hv5, hc5, _⟩ := row5.slice
            rw [nums_length] at hv5 hc5
            subst hv5
            obtain ⟨l4, hl4⟩ : ∃ l4, l4 = l3.drop u4 := ⟨_, rfl⟩
            rw [← hl4] at R5 hcr
            have hlf := left_calls R5
            have hb45 : w4.heap.size ≤ w5.heap.size := G5.size
            have HRow := Lib.hid row5; have HXb := Lib.hid hxb
            obtain ⟨q, hq⟩ : ∃ q, q = l4.length := ⟨_, rfl⟩
            rw [← hq] at hlf
            obtain ⟨xl, hxl⟩ : ∃ xl, xl = x.length := ⟨_, rfl⟩
            rw [← hxl] at hcr HRow ⊢
            have HXl := Lib.hid hxl; have HQ := Lib.hid hq
            have hN5 := HN.out.below HB5.out
            obtain ⟨d0, d1, d2, df⟩ := hN5.cells
            have HN5 := Lib.hid hN5
            clear R5 G5 HCR hu4 hxb row5 hl4 hq hxl df hN5 hB5
            have hl4q : l4 ≠ [] ↔ q ≠ 0 := by rw [HQ.out]; cases l4 <;> simp
            have HL4 := Lib.hid hl4q
            clear hl4q
            by_cases e3 : er3 = 0
            · subst e3
              by_cases e4 : er4 = 0
              · subst e4
                by_cases hq0 : q = 0
                · have tq : ((q : Int) != 0) = false := bne_eq_false_iff_eq.2 (by omega)
                  by_cases ha : 4096 ≤ aa
                  · have ta : decide (4096 ≤ aa) = true := decide_eq_true ha
                    rw [if_pos (.inr (.inr (.inr (.inl ha))))] at hcr
                    have HH := Lib.hid (redo_c0 (s := (ep, m.map C4.c3)) HHd.out hcr)
                    clear hcr
                    have HQ0 := Lib.hid hq0
                    clear hq0
                    go_wp2_with fail
                    refine hlf.mono ?_
                    rintro e w6 ⟨rfl, rfl⟩
                    clear hlf
                    go_wp2_with fail
                    go_end0
                    exact RedoP.same HN.out HB5.out HH.out
                  · have ta : decide (4096 ≤ aa) = false := decide_eq_false ha
                    by_cases hx : 2048 < xl
                    · have hxi : (2048 : Int) < (xl : Int) := by omega
                      rw [if_pos (.inr (.inr (.inr (.inr hx))))] at hcr
                      have HH := Lib.hid (redo_c0 (s := (ep, m.map C4.c3)) HHd.out hcr)
                      clear hcr
                      have HQ0 := Lib.hid hq0
                      clear hq0
                      go_wp2_with fail
                      refine hlf.mono ?_
                      rintro e w6 ⟨rfl, rfl⟩
                      clear hlf
                      go_wp2_with fail
                      go_end0
                      exact RedoP.same HN.out HB5.out HH.out
                    · have hxi : ¬ (2048 : Int) < (xl : Int) := by omega
                      rw [if_neg (fun e => e.elim (fun e => e rfl) (fun e => e.elim (fun e => e rfl) (fun e => e.elim (fun e => HL4.out.1 e hq0) (fun e => e.elim ha hx))))] at hcr
                      have HCR := Lib.hid hcr
                      have HQ0 := Lib.hid hq0
                      clear hcr hq0
                      by_cases hee : ee < ep
                      · have HH := Lib.hid (redo_c1 (s := (ep, m.map C4.c3)) HHd.out HCR.out hee)
                        go_wp2_with fail
                        refine hlf.mono ?_
                        rintro e w6 ⟨rfl, rfl⟩
                        clear hlf
                        go_wp2_with fail
                        go_end0
                        exact RedoP.same HN.out HB5.out HH.out
                      · have hlk := HN5.out.lookup (a := aa) (w64_of (by omega) (by omega))
                        have tee : decide (ee < ep) = false := decide_eq_false hee
                        have hzr : (0 ≤ aa ∧ aa ≤ 4095) ∧ (0 ≤ ee ∧ ee ≤ 1048576) ∧ x.length ≤ 2048 ∧ ∀ y ∈ x, 0 ≤ y ∧ y ≤ 255 := ⟨⟨r2, by omega⟩, ⟨q2, by omega⟩, by rw [← HXl.out]; omega, HXb.out⟩
                        have HZr := Lib.hid hzr
                        have hrw : Row w5 w4.heap.size 5 (sl4 ⟨aa, ee, x, A5, c5⟩) (nums .u8 x) := by have := HRow.out; rw [HXl.out] at this; exact this
                        have HRw := Lib.hid hrw
                        clear hzr hrw
                        cases hlo : look4 m aa with
                        | none =>
                          rw [hlo] at hlk
                          simp only [val4, Option.elim, zero4, Option.isSome] at hlk
                          have hF := redo_c2 (s := (ep, m.map C4.c3)) HHd.out HCR.out hee (by show look (m.map C4.c3) aa = none; rw [look_map, hlo]; rfl)
                          obtain ⟨w7, hup, hP⟩ := RedoP.put HN.out HB5.out (Nat.le_trans HB4.out.size (Nat.le_refl _)) (z := ⟨aa, ee, x, A5, c5⟩) HRw.out ((Below.refl w5.heap.size w5).alloc (Nat.le_refl _) (.cells #[.int .i64 0, .int .i64 0, .slice none 0 0] 34)) HZr.out hF
                          simp only [agg4] at hup
                          rw [← HXl.out] at hup
                          have HP := Lib.hid hP
                          have b2 := (Nd.cells (HN5.out.below ((Below.refl w5.heap.size w5).alloc (Nat.le_refl _) (.cells #[.int .i64 0, .int .i64 0, .slice none 0 0] 34)))).2.2.1
                          clear hlo hF hP
                          go_wp2_with fail
                          refine hlf.mono ?_
                          rintro e w6 ⟨rfl, rfl⟩
                          clear hlf
                          go_wp2_with fail
                          go_end0
                          exact HP.out
                        | some z =>
                          obtain ⟨ya, ye, yb, yA, yc⟩ := z
                          rw [hlo] at hlk
                          simp only [val4, Option.elim, agg4, Option.isSome] at hlk
                          have hF := redo_c3 (s := (ep, m.map C4.c3)) (d := (ya, ye, yb)) HHd.out HCR.out hee (by show look (m.map C4.c3) aa = some _; rw [look_map, hlo]; rfl)
                          simp only at hF
                          obtain ⟨yl, hyl⟩ : ∃ yl, yl = yb.length := ⟨_, rfl⟩
                          rw [← hyl] at hlk
                          have hgw := (Below.refl w5.heap.size w5).alloc (Nat.le_refl _) (.cells #[.int .i64 ya, .int .i64 ye, .slice yA yl yc] 34)
                          have b2 := (Nd.cells (HN5.out.below hgw)).2.2.1
                          by_cases hye : ye < ee
                          · rw [if_pos hye] at hF
                            obtain ⟨w7, hup, hP⟩ := RedoP.put HN.out HB5.out HB4.out.size (z := ⟨aa, ee, x, A5, c5⟩) HRw.out hgw HZr.out hF
                            simp only [agg4] at hup
                            rw [← HXl.out] at hup
                            have HP := Lib.hid hP
                            have tye : decide (ye < ee) = true := decide_eq_true hye
                            clear hlo hF hP hyl hgw
                            go_wp2_with fail
                            refine hlf.mono ?_
                            rintro e w6 ⟨rfl, rfl⟩
                            clear hlf
                            go_wp2_with fail
                            go_end0
                            exact HP.out
                          · rw [if_neg hye] at hF
                            have tye : decide (ye < ee) = false := decide_eq_false hye
                            have HF := Lib.hid hF
                            have HGW := Lib.hid (below_step HB5.out hgw)
                            clear hlo hF hyl hgw
                            go_wp2_with fail
                            refine hlf.mono ?_
                            rintro e w6 ⟨rfl, rfl⟩
                            clear hlf
                            go_wp2_with fail
                            go_end0
                            exact RedoP.same HN.out HGW.out HF.out
                · have tq : ((q : Int) != 0) = true := bne_iff_ne.2 (by omega)
                  rw [if_pos (.inr (.inr (.inl (HL4.out.2 hq0))))] at hcr
                  have HH := Lib.hid (redo_c0 (s := (ep, m.map C4.c3)) HHd.out hcr)
                  clear hcr
                  clear hq0
                  go_wp2_with fail
                  refine hlf.mono ?_
                  rintro e w6 ⟨rfl, rfl⟩
                  clear hlf
                  go_wp2_with fail
                  go_end0
                  exact RedoP.same HN.out HB5.out HH.out
              · have t4 : (er4 != 0) = true := bne_iff_ne.2 e4
                rw [if_pos (.inr (.inl e4))] at hcr
                have HH := Lib.hid (redo_c0 (s := (ep, m.map C4.c3)) HHd.out hcr)
                clear hcr
                clear e4
                go_wp2_with fail
                go_end0
                exact RedoP.same HN.out HB5.out HH.out
            · have t3 : (er3 != 0) = true := bne_iff_ne.2 e3
              rw [if_pos (.inl e3)] at hcr
              have HH := Lib.hid (redo_c0 (s := (ep, m.map C4.c3)) HHd.out hcr)
              clear hcr
              clear e3
              go_wp2_with fail
              go_end0
              exact RedoP.same HN.out HB5.out HH.out
          · have t1 : (wh == 1) = false := beq_eq_false_iff_ne.2 hw1
            have HH := Lib.hid (redo_other (s := (ep, m.map C4.c3)) hh hw2 hw1)
            clear hh hw1 hw2 hN3
            go_wp2_with fail
            go_end0
            exact RedoP.same HN.out HB3.out HH.out
    · rw [if_pos (.inr (.inl h2))] at hh
      have HH := Lib.hid (redo_none (s := (ep, m.map C4.c3)) hh)
      have t1 : (er2 != 0) = true := bne_iff_ne.2 h2
      clear hh h2
      go_wp2_with fail
      go_end0
      exact RedoP.same HN.out HB3.out HH.out
  · rw [if_pos (.inl h1)] at hh
    have HH := Lib.hid (redo_none (s := (ep, m.map C4.c3)) hh)
    have t1 : (er != 0) = true := bne_iff_ne.2 h1
    clear hh h1
    go_wp2_with fail
    go_end0
    exact RedoP.same HN.out HB3.out HH.out
end Go.Proofs.Ytdfpcldoakbehaa.Slot
