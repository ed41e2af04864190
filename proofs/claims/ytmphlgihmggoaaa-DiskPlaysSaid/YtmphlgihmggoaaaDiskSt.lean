import Derived.Test.YtmphlgihmggoaaaDiskSy
import Derived.Lib.MinMax
/- The walk of DiskStays. -/
namespace Go.Proofs.Ytmphlgihmggoaaa.DiskM
open Go.RowKit Go.Proofs.YtmphlgihmggoaaaW.PrintWords Go.Proofs.YtmphlgihmggoaaaW.PrintLast Go.Proofs.YtmphlgihmggoaaaW.PrintMore Go.Proofs.Ytmphlgihmggoaaa.Row Go.Proofs.Ytmphlgihmggoaaa.Cut

theorem crash_len (a b : List Int) (keep turn : Int) : (crashM (a ++ b) a.length keep turn).length = a.length + crashN (a ++ b) a.length keep := by
  have h : (crashL (a ++ b) a.length keep).length = a.length + crashN (a ++ b) a.length keep := by
    unfold crashL; rw [List.length_take, List.length_append]; unfold crashN; rw [List.length_append]; omega
  unfold crashM; split
  · rw [List.length_set]; exact h
  · exact h
theorem crash_n (a b : List Int) (keep : Int) : ((crashN (a ++ b) a.length keep : Nat) : Int) = max (min keep b.length) 0 := by
  unfold crashN; rw [List.length_append]; omega
theorem crash_head (a b : List Int) (keep turn : Int) : (crashM (a ++ b) a.length keep turn).take a.length = a := by
  have hl : (crashL (a ++ b) a.length keep) = a ++ b.take (crashN (a ++ b) a.length keep) := by
    unfold crashL; rw [List.take_append, List.take_of_length_le (by omega)]; congr 2; omega
  have hl2 : (a ++ b.take (crashN (a ++ b) a.length keep)).length = a.length + crashN (a ++ b) a.length keep := by
    rw [List.length_append, List.length_take]; unfold crashN; rw [List.length_append]; omega
  unfold crashM
  split
  · rename_i h
    rw [hl, hl2, List.take_set_of_le (by omega)]
    exact List.take_left
  · rw [hl]; exact List.take_left
theorem crash_tail (a b : List Int) (keep turn : Int) (hn : 0 < crashN (a ++ b) a.length keep) : ((crashM (a ++ b) a.length keep turn).drop a.length).take (crashN (a ++ b) a.length keep - 1) = b.take (crashN (a ++ b) a.length keep - 1) := by
  have hl : (crashL (a ++ b) a.length keep) = a ++ b.take (crashN (a ++ b) a.length keep) := by
    unfold crashL; rw [List.take_append, List.take_of_length_le (by omega)]; congr 2; omega
  have hl2 : (a ++ b.take (crashN (a ++ b) a.length keep)).length = a.length + crashN (a ++ b) a.length keep := by
    rw [List.length_append, List.length_take]; unfold crashN; rw [List.length_append]; omega
  unfold crashM
  split
  · rw [hl, hl2, List.drop_set, if_neg (by omega), List.drop_left, List.take_set_of_le (by omega), List.take_take]
    congr 1; omega
  · rw [hl, List.drop_left, List.take_take]
    congr 1; omega

theorem tail_again {P : Program} {α : Type} {d : Kd α} (t e : TypeId) (kl : IntKind) {z : Option Value} {size bytes : Nat} (ht : P.underlying t = some (.slice e)) (hinfo : (P.info? e).map (fun i => (i.zero, i.size, i.bytes)) = some (z, size, bytes)) (hds : d.sz = size)
    {A : Option Addr} {c : Nat} {xs : List α} (hc : xs.length ≤ c) (j : Int) (m : Nat) (hj : j = m) (hm : m ≤ xs.length) :
    ∃ (A' : Option Addr) (R : List α), R = xs.drop m ∧ (∀ w', d.C w' A xs.length xs → d.C w' A' R.length R) ∧ R.length ≤ c - m ∧ ∀ W : World, (Instr.slice t (.slice A xs.length c) (some (.int kl j)) none none).run P W = .ok (.slice A' R.length (c - m)) W := by
  obtain ⟨i0, hi, h1⟩ := Option.map_eq_some_iff.1 hinfo
  simp only [Prod.mk.injEq] at h1
  refine ⟨_, _, rfl, fun w' h => Kd.C_drop (m := m) h hm hc, by rw [List.length_drop]; omega, fun W => ?_⟩
  have h := cut_from (P := P) t e kl ht hi size h1.2.1 A xs.length c j (by omega) (by omega) W
  rw [h, hj, hds, List.length_drop]
  rfl
theorem conv_drew {w : World} {A : Option Addr} {n c : Nat} {xs : List Int} (h : (Kd.int .u8).C w A n xs) (S : ByteArray) (hS : strOfNums xs = S) : ∀ m, (convert 22 9 (.slice A n c)).run Try.prog (w.drewN m) = .ok (.string S) (w.drewN m) := fun m => by
  have := Kd.C_string (c := c) Try.underlying22 Try.underlying5 Try.underlying9 (Kd.C_below h (pw_below_drewN (Below.refl _ _) m))
  rw [this, hS]
set_option maxHeartbeats 8000000 in
set_option maxRecDepth 100000 in
theorem stays_walk (A1 : Option Addr) (c1 : Nat) (a : List Int) (A2 : Option Addr) (c2 : Nat) (b : List Int) (keep turn : Int) (w : World) (hKa : (Kd.int .u8).C w A1 a.length a) (hKb : (Kd.int .u8).C w A2 b.length b) (hc1 : a.length ≤ c1) (hc2 : b.length ≤ c2) (hba : ∀ x ∈ a, 0 ≤ x ∧ x ≤ 255) (hbb : ∀ x ∈ b, 0 ≤ x ∧ x ≤ 255)
    (hla : a.length ≤ 140737488351232) (hlb : b.length ≤ 140737488351232) :
    Calls Try.prog 3 #[.slice A1 a.length c1, .slice A2 b.length c2, .int .i64 keep, .int .i64 turn] w fun e w' => e = .returned (.bool true) ∧ Below w.heap.size w w' := by
  have HKa := Lib.hid hKa; have HKb := Lib.hid hKb
  clear hKa hKb
  go_enter Try.func3, Try.ntmps3
  go_wp2_with fail
  refine (shown_calls w).mono ?_
  rintro e w1 ⟨rfl, B1⟩
  go_wp2_with fail
  refine (new_ok (w0 := w) 1048576 B1 (by omega) (by omega)).mono ?_
  rintro e w2 ⟨rfl, D2, B2⟩
  have B02 := below_step B1 B2
  generalize w1.heap.size = g at D2
  have HD2 := Lib.hid D2
  clear D2 B2 B1
  by_cases hbig : 1048576 < (a.length : Int) + (b.length : Int)
  · go_wp2_with fail
    go_ret
    exact ⟨rfl, B02⟩
  · have hsmall : (a.length : Int) + (b.length : Int) ≤ 1048576 := by omega
    clear hbig
    go_wp2_with fail
    refine (append_ok HD2.out A1 c1 a (Kd.C_below HKa.out B02) hba (by simp; omega)).mono ?_
    rintro e w3 ⟨rfl, v3, D3, _⟩
    rw [List.nil_append] at D3
    have HD3 := Lib.hid D3; clear D3
    go_wp2_with fail
    refine (sync_calls HD3.out).mono ?_
    rintro e w4 ⟨rfl, D4, _⟩
    have HD4 := Lib.hid D4; clear D4
    go_wp2_with fail
    refine (append_ok HD4.out A2 c2 b (Kd.C_below HKb.out HD4.out.below) hbb (by omega)).mono ?_
    rintro e w5 ⟨rfl, v5, D5, _⟩
    have HD5 := Lib.hid D5; clear D5
    go_wp2_with fail
    refine (crash_calls HD5.out keep turn).mono ?_
    rintro e w6 ⟨rfl, v6, D6, _⟩
    obtain ⟨n, hn⟩ : ∃ n, n = crashN (a ++ b) a.length keep := ⟨_, rfl⟩
    have e1 := crash_len a b keep turn
    have e2 := crash_n a b keep
    have e3 := crash_head a b keep turn
    have e4 := crash_tail a b keep turn
    rw [← hn] at e1 e2 e4
    generalize crashM (a ++ b) a.length keep turn = L at *
    have HN := Lib.hid hn; have E1 := Lib.hid e1; have E2 := Lib.hid e2; have E3 := Lib.hid e3; have E4 := Lib.hid e4
    have hLm : L.length ≤ 1048576 := by have := D6.fit; omega
    have hLa : a.length ≤ L.length := by omega
    have hLab : L.length ≤ a.length + b.length := by omega
    have HD6 := Lib.hid D6
    clear D6 hn e1 e2 e3 e4
    go_wp2_with fail
    refine (bytes_calls HD6.out).mono ?_
    rintro e w7 ⟨gc, rfl, R7, B7⟩
    obtain ⟨A7, c7, hv7, hc7, C7⟩ := R7.reads
    have hA7 : A7 = some ⟨gc, 0, none⟩ ∧ c7 = L.length := by injection hv7 with q1 _ q3; exact ⟨q1.symm, q3.symm⟩
    obtain ⟨rfl, rfl⟩ := hA7
    obtain ⟨R, hR, CR, hRc, hcutR⟩ := head_cut (P := Try.prog) (d := Kd.int .u8) 22 5 .i64 Try.underlying22 info5 C7 hc7 (a.length : Int) a.length rfl hLa
    rw [E3.out] at hR
    subst hR
    obtain ⟨A8, T, hT, CT, hTc, hcutT⟩ := tail_again (P := Try.prog) (d := Kd.int .u8) 22 5 .i64 Try.underlying22 info5 rfl (A := some ⟨gc, 0, none⟩) hc7 (R.length : Int) R.length rfl hLa
    have hTl : T.length = n := by rw [hT, List.length_drop]; have := E1.out; omega
    have D7 := HD6.out.step B7
    have gc1 : w6.heap.size ≤ gc := (R7.lt gc rfl).1
    have gc2 : gc < w7.heap.size := (R7.lt gc rfl).2.1
    have gc3 : gc ≠ g := by have := HD6.out.lt; omega
    have gc4 : some gc ≠ v6.ownBlock := fun e => by have := (HD6.out.row.lt gc e.symm).2.1; omega
    obtain ⟨S, hS⟩ : ∃ S, S = strOfNums R := ⟨_, rfl⟩
    have cv1 := conv_drew (c := L.length) CR S hS.symm
    have cv2 := conv_drew (c := c1) (Kd.C_below HKa.out D7.below) S hS.symm
    have q1 : (R.length : Int) ≤ (L.length : Int) := by omega
    have q2 : (L.length : Int) ≤ (R.length : Int) + (b.length : Int) := by omega
    have qw : IntKind.i64.wrap ((R.length : Int) + (b.length : Int)) = (R.length : Int) + (b.length : Int) := IntWalk.i64_in _ (by omega)
    have qd1 : decide (L.length < R.length) = false := decide_eq_false (by omega)
    have qd2 : decide ((L.length : Int) < (R.length : Int)) = false := decide_eq_false (by omega)
    have qd3 : decide ((R.length : Int) + (b.length : Int) < (L.length : Int)) = false := decide_eq_false (by omega)
    have HD7 := Lib.hid D7; have HR7 := Lib.hid R7; have HC7 := Lib.hid C7; have HCT := Lib.hid CT; have HT := Lib.hid hT; have HS := Lib.hid hS; have HTl := Lib.hid hTl
    clear D7 R7 C7 CR CT hT hS hTl B7 hv7
    go_upto_region 10 with fail
    go_cut [94] (fun t wx => t = .bool false ∧ Drawn0 w7 wx)
    case first =>
      go_quiet ((go_at_call 15; exact Calls.quiet_of_same ((safe_calls (HD7.out.step (pw_below_drewN (Below.refl _ _) _))).mono (by rintro e w' ⟨rfl, rfl⟩; exact ⟨rfl, rfl⟩))))
      go_wp2
      go_meet
      case rel => exact ⟨rfl, (Drawn0.refl w7).step _⟩
    case rest =>
      obtain ⟨rfl, hd⟩ := hcut
      have D8 := HD7.out.step hd.below
      have HD8 := Lib.hid D8
      clear D8
      go_wp2_with fail
      refine (crash_calls HD8.out 0 3).mono ?_
      rintro e w9 ⟨rfl, v9, D9, F9⟩
      rw [crash_synced] at D9
      have R9 : Row w9 w6.heap.size 5 (.slice (some ⟨gc, 0, none⟩) L.length L.length) (nums .u8 L) := (HR7.out.below hd.below).move fun k hk => by
        obtain rfl : gc = k := by simpa [Value.ownBlock] using hk
        exact F9.2.1 gc (by have := hd.below.size; omega) gc3 gc4
      have HD9 := Lib.hid D9; have HR9 := Lib.hid R9
      clear D9 R9 F9
      obtain ⟨Z, hZ⟩ : ∃ Z, Z = strOfNums L := ⟨_, rfl⟩
      have HZ := Lib.hid hZ
      clear hZ
      go_upto_region 15 with fail
      go_cut [108] (fun t wx => t = .bool false ∧ Below w9.heap.size w9 wx)
      case first =>
        have D10 := HD9.out.step (w' := w9.drew) (Below.refl _ _).drew
        have R10 := HR9.out.below (Below.refl w9.heap.size w9).drew
        have HD10 := Lib.hid D10; have HR10 := Lib.hid R10
        clear D10 R10
        have cv3 := row_str HR10.out
        rw [← HZ.out] at cv3
        go_region_with (first
          | (go_at_call 14; refine (bytes_calls HD10.out).mono ?_; rintro e w11 ⟨gd, rfl, R11, B11⟩; have cs10 := row_str R11; rw [← HZ.out] at cs10; have R12 := HR10.out.below B11; have cs11 := row_str R12; rw [← HZ.out] at cs11; have HB11 := Lib.hid B11; have HR12 := Lib.hid R12; clear R11 B11 R12))
        all_goals
          go_wp2
          go_meet
          case rel => exact ⟨rfl, below_step (Below.refl _ _).drew HB11.out⟩
      case rest =>
        obtain ⟨rfl, hB9⟩ := hcut
        have hB := below_step HD9.out.below hB9
        obtain ⟨A', c', hv', hc', C12⟩ := (HR9.out.below hB9).reads
        have hA' : A' = some ⟨gc, 0, none⟩ := by injection hv' with q1 _ _; exact q1.symm
        subst hA'
        have e2 := E2.out
        rw [← HTl.out] at e2
        have e3 : max (min keep (b.length : Int)) 0 = (T.length : Int) := e2.symm
        have HB := Lib.hid hB
        have CT := HCT.out _ C12
        have T1 := Lib.hid (show T.length ≤ b.length by omega)
        clear hv' C12 hB hB9
        go_upto_region 17 with fail
        by_cases h0 : T.length = 0
        · have t1 : (T.length == 0) = true := beq_iff_eq.2 h0
          have t2 : ((T.length : Int) == 0) = true := beq_iff_eq.2 (by omega)
          clear CT e2
          clear HCT HTl
          generalize T.length = k at *
          clear h0
          go_quiet (fail)
          go_wp2
          go_ret
          exact ⟨rfl, below_step HB.out (pw_below_drewN (Below.refl _ _) _)⟩
        · have t1 : (T.length == 0) = false := beq_eq_false_iff_ne.2 h0
          have t2 : ((T.length : Int) == 0) = false := beq_eq_false_iff_ne.2 (by omega)
          obtain ⟨M, hM, CM, _, hcutM⟩ := head_cut (P := Try.prog) (d := Kd.int .u8) 22 5 .i64 Try.underlying22 info5 CT hTc ((T.length : Int) - 1) (T.length - 1) (by omega) (by omega)
          have HTb : T.length ≤ b.length := by omega
          obtain ⟨M2, hM2, CM2, _, hcutM2⟩ := head_cut (P := Try.prog) (d := Kd.int .u8) 22 5 .i64 Try.underlying22 info5 (Kd.C_below HKb.out HB.out) hc2 ((T.length : Int) - 1) (T.length - 1) (by omega) (by omega)
          have hMM : M2 = M := by
            rw [hM, hM2, HTl.out, HT.out]; exact (E4.out (by have := HTl.out; omega)).symm
          obtain ⟨S3, hS3⟩ : ∃ S, S = strOfNums M := ⟨_, rfl⟩
          have cv4 := conv_drew (c := L.length - R.length) CM S3 hS3.symm
          have cv5 := conv_drew (c := c2) CM2 S3 (by rw [hMM]; exact hS3.symm)
          have u1 : IntKind.i64.wrap ((T.length : Int) - 1) = (T.length : Int) - 1 := IntWalk.i64_in _ (by omega)
          have u2 : 1 ≤ (T.length : Int) := by omega
          clear CT hM CM hM2 CM2 hMM hS3 e2 HCT HTl
          generalize T.length = k at *
          clear h0
          go_quiet (fail)
          go_wp2
          go_ret
          exact ⟨rfl, below_step HB.out (pw_below_drewN (Below.refl _ _) _)⟩
end Go.Proofs.Ytmphlgihmggoaaa.DiskM
