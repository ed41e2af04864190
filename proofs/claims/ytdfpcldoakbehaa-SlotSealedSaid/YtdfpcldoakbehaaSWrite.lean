import Derived.Test.YtdfpcldoakbehaaSNote
/- The walk of Write. -/
namespace Go.Proofs.Ytdfpcldoakbehaa.Slot
open Go.RowKit Go.Maps Go.Proofs.YtdfpcldoakbehaaW.PrintWords Go.Proofs.YtdfpcldoakbehaaW.PrintMore Go.Proofs.Ytdfpcldoakbehaa.Row Go.Proofs.Ytdfpcldoakbehaa.Cut Go.Proofs.Ytdfpcldoakbehaa.DiskM Go.Proofs.Ytdfpcldoakbehaa.Quor
open Go.Proofs.Ytdfpcldoakbehaa.PSlotNobody (puint_calls pbytes_calls equal_calls uintW uintW_len uintW_len2)
open Go.Proofs.Ytdfpcldoakbehaa.Crc (frameF)
def AnsP (w0 w : World) (n : NB) (room : Int) (r : Int × S3) (e : Ending) (w' : World) : Prop :=
  ∃ n' ep' m', e = .returned (.int .i64 r.1) ∧ n'.gd = n.gd ∧ n'.gn = n.gn ∧ Nd w0 w' n' room r.2.2.2 r.2.2.2.length ep' m' ∧ (ep', m'.map C4.c3, r.2.2.2) = r.2 ∧ Stp w w' (SN n) (SN n')
section
variable {w0 w w' : World} {n : NB} {room : Int} {bs : List Int} {ep : Int} {m : List C4}
theorem AnsP.same (N : Nd w0 w n room bs bs.length ep m) (hb : Below w.heap.size w w') (r : Int) : AnsP w0 w n room (r, (ep, m.map C4.c3, bs)) (.returned (.int .i64 r)) w' :=
  ⟨n, ep, m, rfl, rfl, rfl, N.below hb, rfl, Stp.of_below _ hb⟩
theorem AnsP.note {p : List Int} {w1 : World} {e : Ending} (hb : Below w.heap.size w w1) (h : NoteP w0 w1 n room (ep, m.map C4.c3, bs) p e w') : AnsP w0 w n room (0, noteF (ep, m.map C4.c3, bs) p) e w' := by
  obtain ⟨n', ep', m', h1, h2, h3, h4, h5, h6⟩ := h
  exact ⟨n', ep', m', h1, h2, h3, h4, h5, (Stp.of_below _ hb).trans h6⟩
theorem Nd.bytes (N : Nd w0 w n room bs bs.length ep m) {z : C4} (hz : z ∈ m) : z.by_.length ≤ z.c ∧ (Kd.int .u8).C w z.A z.by_.length z.by_ := by
  obtain ⟨A, c, hv, hc, hC⟩ := (N.rows z hz).1.reads
  injection hv with h1 h2 h3
  subst h1; subst h3
  exact ⟨hc, hC⟩
/-- A payload that was just laid is none of the node's blocks. -/
theorem Nd.fresh (N : Nd w0 w n room bs bs.length ep m) {w1 : World} {base : Nat} (hb : w.heap.size ≤ base) {A : Option Addr} {k c : Nat} {l : List Int} (h : (Kd.int .u8).R 5 w1 base (fun _ => True) (.slice A k c) l) : Kd.F (Kd.int .u8) w1 (fun k => ¬ SN n k) A k l :=
  Kd.F_mono (Kd.R_F (Kd.R_bound h)) fun k hk e => by have := N.lt e; have := hk.2.1; omega
end
set_option maxRecDepth 1000000 in
set_option maxHeartbeats 8000000 in
theorem write_calls {w0 w : World} {n : NB} {room : Int} {bs : List Int} {ep : Int} {m : List C4} (N : Nd w0 w n room bs bs.length ep m) (epoch at_ : Int) (B : Option Addr) (d : Nat) (b : List Int) (hC : (Kd.int .u8).C w B b.length b) (hd : b.length ≤ d) (hby : ∀ x ∈ b, 0 ≤ x ∧ x ≤ 255) (hbl : b.length ≤ 9223372036854775807) (hfit : (bs.length : Int) + b.length + 20 ≤ room) :
    Calls Try.prog 11 #[.pointer (some ⟨n.gn, 0, none⟩), .int .i64 epoch, .int .i64 at_, .slice B b.length d] w (AnsP w0 w n room (writeF (ep, m.map C4.c3, bs) epoch at_ b)) := by
  obtain ⟨_, c1, c2, _⟩ := N.cells
  have HN := Lib.hid N; have HC := Lib.hid hC; have HBy := Lib.hid hby; have HFit := Lib.hid hfit; have HD := Lib.hid hd
  have hF : writeF (ep, m.map C4.c3, bs) epoch at_ b = writeF (ep, m.map C4.c3, bs) epoch at_ b := rfl
  conv at hF => rhs; unfold writeF
  simp only at hF
  obtain ⟨bl, hbl2⟩ : ∃ bl, bl = b.length := ⟨_, rfl⟩
  rw [← hbl2] at hF hbl ⊢
  have HBl := Lib.hid hbl2
  clear N hC hby hfit hd hbl2
  by_cases h0 : at_ < 0
  · rw [if_pos (.inl h0)] at hF
    have HF := Lib.hid hF
    clear hF
    go_enter Try.func11, Try.ntmps11
    go_wp2_with fail
    go_ret
    rw [HF.out]
    exact AnsP.same HN.out (Below.refl _ _) 2
  · skip
    by_cases h1 : 4096 ≤ at_
    · rw [if_pos (.inr (.inl h1))] at hF
      have HF := Lib.hid hF
      clear hF
      go_enter Try.func11, Try.ntmps11
      go_wp2_with fail
      go_ret
      rw [HF.out]
      exact AnsP.same HN.out (Below.refl _ _) 2
    · skip
      by_cases h2 : epoch < 0
      · rw [if_pos (.inr (.inr (.inl h2)))] at hF
        have HF := Lib.hid hF
        clear hF
        go_enter Try.func11, Try.ntmps11
        go_wp2_with fail
        go_ret
        rw [HF.out]
        exact AnsP.same HN.out (Below.refl _ _) 2
      · skip
        by_cases h3 : 1048576 < epoch
        · rw [if_pos (.inr (.inr (.inr (.inl h3))))] at hF
          have HF := Lib.hid hF
          clear hF
          go_enter Try.func11, Try.ntmps11
          go_wp2_with fail
          go_ret
          rw [HF.out]
          exact AnsP.same HN.out (Below.refl _ _) 2
        · skip
          by_cases h4 : 2048 < bl
          · rw [if_pos (.inr (.inr (.inr (.inr h4))))] at hF
            have h4i : (2048 : Int) < (bl : Int) := by omega
            have HF := Lib.hid hF
            clear hF
            go_enter Try.func11, Try.ntmps11
            go_wp2_with fail
            go_ret
            rw [HF.out]
            exact AnsP.same HN.out (Below.refl _ _) 2
          · skip
            have h4i : ¬ (2048 : Int) < (bl : Int) := by omega
            rw [if_neg (fun e => e.elim h0 (fun e => e.elim h1 (fun e => e.elim h2 (fun e => e.elim h3 h4))))] at hF
            by_cases h5 : epoch < ep
            · rw [if_pos h5] at hF
              have HF := Lib.hid hF
              clear hF
              go_enter Try.func11, Try.ntmps11
              go_wp2_with fail
              go_ret
              rw [HF.out]
              exact AnsP.same HN.out (Below.refl _ _) 7
            · rw [if_neg h5] at hF
              have hlk := HN.out.lookup (a := at_) (w64_of (by omega) (by omega))
              have HLm := Lib.hid (look_map m at_)
              cases hlo : look4 m at_ with
              | none =>
                rw [hlo] at hlk
                simp only [val4, Option.elim, zero4, Option.isSome] at hlk
                have hlm : look (m.map C4.c3) at_ = none := by rw [HLm.out, hlo]; rfl
                rw [hlm] at hF
                simp only at hF
                have HF := Lib.hid hF
                have HB0 := Lib.hid ((Below.refl w.heap.size w).alloc (Nat.le_refl _) (.cells #[.int .i64 0, .int .i64 0, .slice none 0 0] 34))
                clear hF hlm hlo
                go_enter Try.func11, Try.ntmps11
                go_wp2_with fail
                refine (puint_calls none 0 [] 1 _ (Kd.C_nil _ _) (Nat.zero_le _) (by omega) (by omega) (by simp)).mono ?_
                rintro e w1 ⟨v1, rfl, R1, b1⟩
                obtain ⟨l1, hl1⟩ : ∃ l1, l1 = [] ++ uintW (1 : Int).toNat := ⟨_, rfl⟩
                rw [← hl1] at R1
                obtain ⟨A1, k1, rfl⟩ := Kd.R_slice R1
                obtain ⟨_, hc1, C1⟩ := Kd.R_reads' R1
                have HB1 := Lib.hid (below_step HB0.out b1)
                have hq1 : l1.length ≤ 1 := by rw [hl1]; exact Nat.le_refl _
                have hu2 := puint_calls A1 k1 l1 epoch w1 C1 hc1 (by omega) (by omega) (by omega)
                obtain ⟨n1, hn1⟩ : ∃ n1, n1 = l1.length := ⟨_, rfl⟩
                rw [← hn1] at hu2 ⊢
                have HL1 := Lib.hid hl1; have HQ1 := Lib.hid hq1
                clear hl1 hn1 R1 C1 hc1 b1 hq1
                go_wp2_with fail
                refine hu2.mono ?_
                rintro e w2 ⟨v2, rfl, R2, b2⟩
                obtain ⟨l2, hl2⟩ : ∃ l2, l2 = l1 ++ uintW epoch.toNat := ⟨_, rfl⟩
                rw [← hl2] at R2
                obtain ⟨A2, k2, rfl⟩ := Kd.R_slice R2
                obtain ⟨_, hc2, C2⟩ := Kd.R_reads' R2
                have HB2 := Lib.hid (below_step HB1.out b2)
                have hq2 : l2.length ≤ 4 := by have := HQ1.out; have := uintW_len epoch.toNat; rw [hl2, List.length_append]; omega
                have hu3 := puint_calls A2 k2 l2 at_ w2 C2 hc2 (by omega) (by omega) (by omega)
                obtain ⟨n2, hn2⟩ : ∃ n2, n2 = l2.length := ⟨_, rfl⟩
                rw [← hn2] at hu3 ⊢
                have HL2 := Lib.hid hl2; have HQ2 := Lib.hid hq2
                clear hu2 hl2 hn2 R2 C2 hc2 b2 hq2
                go_wp2_with fail
                refine hu3.mono ?_
                rintro e w3 ⟨v3, rfl, R3, b3⟩
                obtain ⟨l3, hl3⟩ : ∃ l3, l3 = l2 ++ uintW at_.toNat := ⟨_, rfl⟩
                rw [← hl3] at R3
                obtain ⟨A3, k3, rfl⟩ := Kd.R_slice R3
                obtain ⟨_, hc3, C3⟩ := Kd.R_reads' R3
                have HB3 := Lib.hid (below_step HB2.out b3)
                have hq3 : l3.length ≤ 7 := by have := HQ2.out; have := uintW_len at_.toNat; rw [hl3, List.length_append]; omega
                have hbs : b.length ≤ 2048 := by have := HBl.out; omega
                have hu4 := pbytes_calls A3 k3 l3 B d b w3 C3 hc3 (Kd.C_below HC.out HB3.out) HD.out (by omega) (by omega)
                obtain ⟨n3, hn3⟩ : ∃ n3, n3 = l3.length := ⟨_, rfl⟩
                rw [← hn3, ← HBl.out] at hu4
                rw [← hn3]
                have HL3 := Lib.hid hl3; have HBs := Lib.hid hbs
                clear hu3 hl3 hn3 R3 C3 hc3 b3 hq3 hbs
                go_wp2_with fail
                refine hu4.mono ?_
                rintro e w4 ⟨v4, rfl, R4, b4⟩
                obtain ⟨l4, hl4⟩ : ∃ l4, l4 = l3 ++ (uintW bl ++ b) := ⟨_, rfl⟩
                rw [← hl4] at R4
                obtain ⟨A4, k4, rfl⟩ := Kd.R_slice R4
                obtain ⟨_, hc4, C4'⟩ := Kd.R_reads' R4
                have HB4 := Lib.hid (below_step HB3.out b4)
                have hpay : l4 = writeP epoch.toNat at_.toNat b := by rw [hl4, HL3.out, HL2.out, HL1.out, HBl.out]; unfold writeP; rw [List.nil_append]; rfl
                have hpl := writeP_len epoch.toNat at_.toNat b (by omega) HBs.out
                have hfl := frame_len (writeP epoch.toNat at_.toNat b)
                have hno := note_calls (HN.out.below HB4.out) A4 k4 l4 (HN.out.fresh HB3.out.size R4) hc4 (by rw [hpay]; exact writeP_bytes _ _ _ (by omega) (by omega) HBs.out HBy.out) (by rw [hpay]; have := HBs.out; omega) (by rw [hpay]; have := HFit.out; omega)
                rw [hpay] at hno
                rw [← hpay] at hno
                obtain ⟨n4, hn4⟩ : ∃ n4, n4 = l4.length := ⟨_, rfl⟩
                rw [← hn4] at hno ⊢
                have HPay := Lib.hid hpay
                clear hu4 hl4 hn4 R4 C4' hc4 b4 hpay hpl hfl
                go_wp2_with fail
                refine hno.mono ?_
                rintro e w5 hP
                have hA := AnsP.note HB4.out hP
                rw [HPay.out] at hA
                obtain ⟨n', ep', m', rfl, hrest⟩ := hP
                have HA := Lib.hid hA
                clear hno hrest hA
                go_wp2_with fail
                go_ret
                rw [HF.out]
                exact HA.out
              | some z =>
                have hzm := (look4_mem hlo).1
                obtain ⟨hzc, hzC⟩ := HN.out.bytes hzm
                have hzl := (HN.out.rngc z hzm).2.2.1
                obtain ⟨za, ze, zb, zA, zc⟩ := z
                simp only at hzc hzC hzl
                rw [hlo] at hlk
                simp only [val4, Option.elim, agg4, Option.isSome] at hlk
                have hlm : look (m.map C4.c3) at_ = some (za, ze, zb) := by rw [HLm.out, hlo]; rfl
                rw [hlm] at hF
                simp only at hF
                obtain ⟨zl, hzl2⟩ : ∃ zl, zl = zb.length := ⟨_, rfl⟩
                rw [← hzl2] at hlk
                have HZl := Lib.hid hzl2
                have hgw := (Below.refl w.heap.size w).alloc (Nat.le_refl _) (.cells #[.int .i64 za, .int .i64 ze, .slice zA zl zc] 34)
                have HB0 := Lib.hid hgw
                by_cases h6 : epoch ≤ ze
                · rw [if_pos h6] at hF
                  by_cases h7 : ze = epoch
                  · have heq := equal_calls zA zc zb B d b (w.alloc (.cells #[.int .i64 za, .int .i64 ze, .slice zA zl zc] 34)) (Kd.C_below hzC hgw) hzc (Kd.C_below HC.out hgw) HD.out (by omega)
                    rw [← hzl2, ← HBl.out] at heq
                    have t7 : (ze == epoch) = true := beq_iff_eq.2 h7
                    by_cases h8 : zb = b
                    · rw [if_pos ⟨h7, h8⟩] at hF
                      rw [decide_eq_true h8] at heq
                      have HF := Lib.hid hF
                      clear hF hlm hlo hzm hzC hzl2 h7 h8 hgw hzc hzl
                      go_enter Try.func11, Try.ntmps11
                      go_wp2_with fail
                      refine heq.mono ?_
                      rintro e w2 ⟨rfl, hd2⟩
                      have HD2 := Lib.hid (below_step HB0.out hd2.below)
                      clear heq hd2
                      go_wp2_with fail
                      go_ret
                      rw [HF.out]
                      exact AnsP.same HN.out HD2.out 0
                    · rw [if_neg (fun h => h8 h.2)] at hF
                      rw [decide_eq_false h8] at heq
                      have HF := Lib.hid hF
                      clear hF hlm hlo hzm hzC hzl2 h7 h8 hgw hzc hzl
                      go_enter Try.func11, Try.ntmps11
                      go_wp2_with fail
                      refine heq.mono ?_
                      rintro e w2 ⟨rfl, hd2⟩
                      have HD2 := Lib.hid (below_step HB0.out hd2.below)
                      clear heq hd2
                      go_wp2_with fail
                      go_ret
                      rw [HF.out]
                      exact AnsP.same HN.out HD2.out 12
                  · rw [if_neg (fun h => h7 h.1)] at hF
                    have t7 : (ze == epoch) = false := beq_eq_false_iff_ne.2 h7
                    have HF := Lib.hid hF
                    clear hF hlm hlo hzm hzC hzl2 h7 hgw hzc hzl
                    go_enter Try.func11, Try.ntmps11
                    go_wp2_with fail
                    go_ret
                    rw [HF.out]
                    exact AnsP.same HN.out HB0.out 12
                · rw [if_neg h6] at hF
                  have HF := Lib.hid hF
                  clear hF hlm hlo hzm hzC hzl2 hgw hzc hzl
                  go_enter Try.func11, Try.ntmps11
                  go_wp2_with fail
                  refine (puint_calls none 0 [] 1 _ (Kd.C_nil _ _) (Nat.zero_le _) (by omega) (by omega) (by simp)).mono ?_
                  rintro e w1 ⟨v1, rfl, R1, b1⟩
                  obtain ⟨l1, hl1⟩ : ∃ l1, l1 = [] ++ uintW (1 : Int).toNat := ⟨_, rfl⟩
                  rw [← hl1] at R1
                  obtain ⟨A1, k1, rfl⟩ := Kd.R_slice R1
                  obtain ⟨_, hc1, C1⟩ := Kd.R_reads' R1
                  have HB1 := Lib.hid (below_step HB0.out b1)
                  have hq1 : l1.length ≤ 1 := by rw [hl1]; exact Nat.le_refl _
                  have hu2 := puint_calls A1 k1 l1 epoch w1 C1 hc1 (by omega) (by omega) (by omega)
                  obtain ⟨n1, hn1⟩ : ∃ n1, n1 = l1.length := ⟨_, rfl⟩
                  rw [← hn1] at hu2 ⊢
                  have HL1 := Lib.hid hl1; have HQ1 := Lib.hid hq1
                  clear hl1 hn1 R1 C1 hc1 b1 hq1
                  go_wp2_with fail
                  refine hu2.mono ?_
                  rintro e w2 ⟨v2, rfl, R2, b2⟩
                  obtain ⟨l2, hl2⟩ : ∃ l2, l2 = l1 ++ uintW epoch.toNat := ⟨_, rfl⟩
                  rw [← hl2] at R2
                  obtain ⟨A2, k2, rfl⟩ := Kd.R_slice R2
                  obtain ⟨_, hc2, C2⟩ := Kd.R_reads' R2
                  have HB2 := Lib.hid (below_step HB1.out b2)
                  have hq2 : l2.length ≤ 4 := by have := HQ1.out; have := uintW_len epoch.toNat; rw [hl2, List.length_append]; omega
                  have hu3 := puint_calls A2 k2 l2 at_ w2 C2 hc2 (by omega) (by omega) (by omega)
                  obtain ⟨n2, hn2⟩ : ∃ n2, n2 = l2.length := ⟨_, rfl⟩
                  rw [← hn2] at hu3 ⊢
                  have HL2 := Lib.hid hl2; have HQ2 := Lib.hid hq2
                  clear hu2 hl2 hn2 R2 C2 hc2 b2 hq2
                  go_wp2_with fail
                  refine hu3.mono ?_
                  rintro e w3 ⟨v3, rfl, R3, b3⟩
                  obtain ⟨l3, hl3⟩ : ∃ l3, l3 = l2 ++ uintW at_.toNat := ⟨_, rfl⟩
                  rw [← hl3] at R3
                  obtain ⟨A3, k3, rfl⟩ := Kd.R_slice R3
                  obtain ⟨_, hc3, C3⟩ := Kd.R_reads' R3
                  have HB3 := Lib.hid (below_step HB2.out b3)
                  have hq3 : l3.length ≤ 7 := by have := HQ2.out; have := uintW_len at_.toNat; rw [hl3, List.length_append]; omega
                  have hbs : b.length ≤ 2048 := by have := HBl.out; omega
                  have hu4 := pbytes_calls A3 k3 l3 B d b w3 C3 hc3 (Kd.C_below HC.out HB3.out) HD.out (by omega) (by omega)
                  obtain ⟨n3, hn3⟩ : ∃ n3, n3 = l3.length := ⟨_, rfl⟩
                  rw [← hn3, ← HBl.out] at hu4
                  rw [← hn3]
                  have HL3 := Lib.hid hl3; have HBs := Lib.hid hbs
                  clear hu3 hl3 hn3 R3 C3 hc3 b3 hq3 hbs
                  go_wp2_with fail
                  refine hu4.mono ?_
                  rintro e w4 ⟨v4, rfl, R4, b4⟩
                  obtain ⟨l4, hl4⟩ : ∃ l4, l4 = l3 ++ (uintW bl ++ b) := ⟨_, rfl⟩
                  rw [← hl4] at R4
                  obtain ⟨A4, k4, rfl⟩ := Kd.R_slice R4
                  obtain ⟨_, hc4, C4'⟩ := Kd.R_reads' R4
                  have HB4 := Lib.hid (below_step HB3.out b4)
                  have hpay : l4 = writeP epoch.toNat at_.toNat b := by rw [hl4, HL3.out, HL2.out, HL1.out, HBl.out]; unfold writeP; rw [List.nil_append]; rfl
                  have hpl := writeP_len epoch.toNat at_.toNat b (by omega) HBs.out
                  have hfl := frame_len (writeP epoch.toNat at_.toNat b)
                  have hno := note_calls (HN.out.below HB4.out) A4 k4 l4 (HN.out.fresh HB3.out.size R4) hc4 (by rw [hpay]; exact writeP_bytes _ _ _ (by omega) (by omega) HBs.out HBy.out) (by rw [hpay]; have := HBs.out; omega) (by rw [hpay]; have := HFit.out; omega)
                  rw [hpay] at hno
                  rw [← hpay] at hno
                  obtain ⟨n4, hn4⟩ : ∃ n4, n4 = l4.length := ⟨_, rfl⟩
                  rw [← hn4] at hno ⊢
                  have HPay := Lib.hid hpay
                  clear hu4 hl4 hn4 R4 C4' hc4 b4 hpay hpl hfl
                  go_wp2_with fail
                  refine hno.mono ?_
                  rintro e w5 hP
                  have hA := AnsP.note HB4.out hP
                  rw [HPay.out] at hA
                  obtain ⟨n', ep', m', rfl, hrest⟩ := hP
                  have HA := Lib.hid hA
                  clear hno hrest hA
                  go_wp2_with fail
                  go_ret
                  rw [HF.out]
                  exact HA.out
end Go.Proofs.Ytdfpcldoakbehaa.Slot
