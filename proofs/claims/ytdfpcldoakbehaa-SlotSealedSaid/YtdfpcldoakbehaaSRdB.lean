import Derived.Test.YtdfpcldoakbehaaSPlain
import Derived.Test.YtdfpcldoakbehaaPackFrom
import Derived.Lib.Hide
import Derived.Maps.RangeWalk
/- The walk of a reader's Bytes. -/
namespace Go.Proofs.Ytdfpcldoakbehaa.Slot
open Go.RowKit Go.Proofs.YtdfpcldoakbehaaW.PrintWords Go.Proofs.YtdfpcldoakbehaaW.PrintMore Go.Proofs.Ytdfpcldoakbehaa.Row Go.Proofs.Ytdfpcldoakbehaa.Cut Go.Proofs.Ytdfpcldoakbehaa.Pack
def RdP (w : World) (g : Nat) (l : List Int) (r : List Int × Int × Nat) (e : Ending) (w' : World) : Prop :=
  ∃ v, e = .returned (.tuple #[v, .int .i64 r.2.1]) ∧ Row w' w.heap.size 5 v (nums .u8 r.1) ∧ (∃ A' c', Rdr w' g A' c' (l.drop r.2.2)) ∧ w.grownBy w' (some g)
theorem grown_set (w : World) (g j : Nat) (u : Value) : w.grownBy (w.setCell ⟨g, j, none⟩ u) (some g) :=
  ⟨rfl, rfl, rfl, by simp, fun i _ hne => Below.heap_setCell w ⟨g, j, none⟩ u i (fun e => hne (by rw [e]))⟩
theorem rdr_put {w w1 : World} {g : Nat} {A A1 : Option Addr} {c c1 : Nat} {l l1 : List Int} (h : Rdr w g A c l) (h1 : Rdr w1 g A1 c1 l1) (hg : w.grownBy w1 (some g)) : Rdr (w1.setCell ⟨g, 0, none⟩ (.slice A l.length c)) g A c l := by
  have hb := heap_setCell_same w1 g 0 _ 89 (.slice A l.length c) h1.blk
  refine ⟨hb, h.cap, ?_⟩
  refine C_block h.rd fun a ha h0 => ?_
  subst ha
  have hne := h.far h.rd h0
  have hlt : a.block < w.heap.size := by
    obtain ⟨ad, x, hA, _, _, hc⟩ := at_byte h.rd 0 h0
    injection hA with hA; subst hA
    have e0 : a.add 0 = a := by unfold Addr.add; simp
    rw [e0] at hc
    exact World.block_lt_of_cell? w a hc
  exact (Below.heap_setCell w1 ⟨g, 0, none⟩ _ a.block hne).trans (hg.block a.block hlt (fun e => hne (Option.some.inj e)))
set_option maxRecDepth 100000 in
set_option maxHeartbeats 3200000 in
theorem rbytes_calls {w : World} {g : Nat} {A : Option Addr} {c : Nat} {l : List Int} (h : Rdr w g A c l) (hby : ∀ x ∈ l, 0 ≤ x ∧ x ≤ 255) (hn : l.length ≤ 140737488351232) :
    Calls Try.prog 35 #[.pointer (some ⟨g, 0, none⟩)] w (RdP w g l (bytesR l)) := by
  have c0 : w.cell? ⟨g, 0, none⟩ = some (.slice A l.length c) := (blk_cell h.blk 0).trans rfl
  obtain ⟨i5, hi5, hz5, hs5, hb5⟩ := info_parts info5
  obtain ⟨s1, s2, s3⟩ := Crc.uintR_spec l
  have hu := uint_calls h hby
  have hbr : bytesR l = bytesR l := rfl
  conv at hbr => rhs; unfold bytesR
  obtain ⟨⟨n, er, u⟩, hr⟩ : ∃ r, uintR l = r := ⟨_, rfl⟩
  rw [hr] at s1 s2 s3 hu hbr
  simp only at s1 s2 s3 hu hbr
  have HR := Lib.hid h; have HBy := Lib.hid hby; have HBR := Lib.hid hbr
  clear h hby hr hbr hz5 hs5 hb5
  obtain ⟨N, hN⟩ : ∃ N, N = l.length := ⟨_, rfl⟩
  have HN := Lib.hid hN
  go_enter Try.func35, Try.ntmps35
  go_wp2_with fail
  refine hu.mono ?_
  rintro e w1 ⟨rfl, ⟨A1, c1, R1⟩, G1⟩
  have b0 : w1.cell? ⟨g, 0, none⟩ = some (.slice A1 (l.drop u).length c1) := (blk_cell R1.blk 0).trans rfl
  have f0 : w1.frozen? ⟨g, 0, none⟩ = false := blk_frozen R1.blk 0
  have HP := Lib.hid (rdr_put HR.out R1 G1)
  have hsz := G1.size
  have hgl := (Array.getElem?_eq_some_iff.1 R1.blk).1
  have HG := Lib.hid (G1.trans (grown_set w1 g 0 (.slice A l.length c)))
  have HR1 := Lib.hid R1; have HG1 := Lib.hid G1
  clear hu R1 G1 c0 hN
  by_cases h1 : er = 0
  · subst h1
    have hb := HBR.out
    rw [if_neg (by simp)] at hb
    obtain ⟨m, rfl⟩ := Int.eq_ofNat_of_zero_le s2
    obtain ⟨L, hL⟩ : ∃ L, L = l.drop u := ⟨_, rfl⟩
    have hLl : L.length = l.length - u := by rw [hL, List.length_drop]
    rw [← hLl, ← hL, Int.toNat_natCast] at hb
    rw [← hL] at b0 HR1
    have HL := Lib.hid hL
    have hq63 : (L.length : Int) ≤ 140737488351232 := by omega
    have hq0 : (0 : Int) ≤ (L.length : Int) := by omega
    have hlf := left_calls HR1.out
    obtain ⟨q, hq⟩ : ∃ q, q = L.length := ⟨_, rfl⟩
    rw [← hq] at hb hq63 hq0 b0 hlf
    have HQ := Lib.hid hq
    clear hL hLl hq HBR
    by_cases h2 : (q : Int) < (m : Int)
    · rw [if_pos h2] at hb
      have HB := Lib.hid hb
      clear hb
      go_wp2_with fail
      refine hlf.mono ?_
      rintro e w2 ⟨rfl, rfl⟩
      clear hlf
      go_wp2_with fail
      go_ret2
      rw [HB.out]
      exact ⟨.slice none 0 0, rfl, Row.nil _ _ _, ⟨A, c, HP.out⟩, HG.out⟩
    · rw [if_neg h2] at hb
      have HB := Lib.hid hb
      have hmq : m ≤ q := by omega
      have hcap := HR1.out.cap
      rw [← HQ.out] at hcap
      have hct := cut_to (P := Try.prog) 23 5 .u64 Try.underlying23 hi5 A1 q c1 (m : Int) (by omega) (by omega) hcap
      rw [Int.toNat_natCast] at hct
      have hb2 := ((Below.refl w1.heap.size w1).alloc (Nat.le_refl _) (.cells #[] 5))
      have hC2 := Kd.C_below HR1.out.rd hb2
      have hct2 := Kd.C_take (m := m) hC2 (by rw [← HQ.out]; exact hmq)
      have htl : (L.take m).length = m := by rw [List.length_take, ← HQ.out]; omega
      rw [htl] at hct2
      obtain ⟨A3, c3, w3, hrun, hrow, hgr, _⟩ := append_u8 (w1.alloc (.cells #[] 5)) w.heap.size _ [] (empty_row w1 w.heap.size hsz) A1 c1 (L.take m) (by rw [htl]; exact hct2) (by rw [htl]; simp; omega) (by simp; omega)
      simp only [List.length_nil, Nat.zero_add, List.nil_append] at hrun hrow hgr
      rw [htl] at hrun hrow
      have hb3 : Below w1.heap.size w1 w3 := hb2.grown hgr (by simp) (fun k hk => by
        have hk' : k = w1.heap.size := by simpa [Value.ownBlock] using hk.symm
        omega)
      have hC3 := Kd.C_below HR1.out.rd hb3
      rw [← HQ.out] at hC3
      have hblk3 := (hb3.block g hgl).trans HR1.out.blk
      rw [← HQ.out] at hblk3
      obtain ⟨A5, R5, hR5, hC5, hc5, hrun5⟩ := tail_cut (P := Try.prog) (d := Kd.int .u8) 23 5 .u64 Try.underlying23 info5 rfl (by rw [HQ.out] at hC3; exact hC3) (by rw [HQ.out] at hcap; exact hcap) (m : Int) m rfl (by rw [← HQ.out]; exact hmq)
      rw [← HQ.out] at hrun5
      have hfin := heap_setCell_same w3 g 0 _ 89 (.slice A5 R5.length (c1 - m)) hblk3
      have hrd : Rdr (w3.setCell ⟨g, 0, none⟩ (.slice A5 R5.length (c1 - m))) g A5 (c1 - m) R5 := ⟨hfin, hc5, C_block hC5 fun a ha h0 => by
        subst ha
        have hne : a.block ≠ g := Rdr.far (A := A1) (c := c1) (l := L) ⟨by rw [← HQ.out]; exact hblk3, HR1.out.cap, by rw [HQ.out] at hC3; exact hC3⟩ hC5 h0
        exact Below.heap_setCell w3 ⟨g, 0, none⟩ _ a.block hne⟩
      have d0 : w3.cell? ⟨g, 0, none⟩ = some (.slice A1 q c1) := (blk_cell hblk3 0).trans rfl
      have e0 : w3.frozen? ⟨g, 0, none⟩ = false := blk_frozen hblk3 0
      have hrow4 : Row (w3.setCell ⟨g, 0, none⟩ (.slice A5 R5.length (c1 - m))) w.heap.size 5 (.slice A3 m c3) (nums .u8 (L.take m)) := hrow.move fun k hk => by
        obtain ⟨_, _, cur, hcur⟩ := hrow.lt k hk
        exact set_other _ (blk_ne hcur hblk3 (by decide))
      have hgf : w.grownBy (w3.setCell ⟨g, 0, none⟩ (.slice A5 R5.length (c1 - m))) (some g) := ((HG1.out.andThen (World.grownBy_alloc w1 (.cells #[] 5) none) (by simp)).andThen hgr (fun j hj => by
        have hj' : j = w1.heap.size := by simpa [Value.ownBlock] using hj.symm
        exact .inl (by omega))).trans (grown_set w3 g 0 _)
      have HF := Lib.hid (And.intro hrd (And.intro hrow4 hgf))
      have HR5 := Lib.hid hR5
      have HRun := Lib.hid hrun
      clear hb hb2 hC2 hct2 htl hrow hgr hb3 hC3 hblk3 hR5 hC5 hc5 hfin hrd hrow4 hgf hrun
      go_wp2_with fail
      refine hlf.mono ?_
      rintro e w2 ⟨rfl, rfl⟩
      clear hlf
      go_wp2_with (at_builtin; refine wpList_append_run rfl _ _ 23 rfl _ _ _ rfl rfl HRun.out ?_)
      go_ret2
      rw [HB.out]
      refine ⟨_, rfl, HF.out.2.1, ⟨A5, c1 - m, ?_⟩, HF.out.2.2⟩
      have e5 : R5 = l.drop (u + m) := by rw [HR5.out, HL.out, List.drop_drop]
      show Rdr _ g A5 (c1 - m) (l.drop (u + m))
      rw [← e5]
      exact HF.out.1
  · have hb := HBR.out
    rw [if_pos h1] at hb
    have HB := Lib.hid hb
    have t1 : (er == 0) = false := beq_eq_false_iff_ne.2 h1
    have t2 : (er != 0) = true := bne_iff_ne.2 h1
    clear hb h1
    go_wp2_with fail
    go_ret2
    rw [HB.out]
    exact ⟨.slice none 0 0, rfl, Row.nil _ _ _, ⟨A, c, HP.out⟩, HG.out⟩
end Go.Proofs.Ytdfpcldoakbehaa.Slot
