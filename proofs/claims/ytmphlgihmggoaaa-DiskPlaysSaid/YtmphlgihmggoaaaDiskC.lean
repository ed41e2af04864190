import Derived.Test.YtmphlgihmggoaaaDiskM
import Derived.StillTailTactics
import Derived.Laws.BitsLemmas
/- The walk of Crash. -/
namespace Go.Proofs.Ytmphlgihmggoaaa.DiskM
open Go.RowKit Go.Proofs.YtmphlgihmggoaaaW.PrintWords Go.Proofs.YtmphlgihmggoaaaW.PrintLast Go.Proofs.YtmphlgihmggoaaaW.PrintMore Go.Proofs.Ytmphlgihmggoaaa.Row Go.Proofs.Ytmphlgihmggoaaa.Cut
theorem block_set' {w : World} {g g' j : Nat} {t t' : TypeId} {cs cs' : Array Value} (h : w.heap[g]? = some (.cells cs t (0, 0))) (h' : w.heap[g']? = some (.cells cs' t' (0, 0))) (hne : t ≠ t') (v : Value) : (w.setCell ⟨g', j, none⟩ v).heap[g]? = some (.cells cs t (0, 0)) :=
  (Below.heap_setCell w ⟨g', j, none⟩ v g (blk_ne h h' hne)).trans h
theorem xor_lt (y t : Nat) (hy : y < 256) (ht : t < 8) : y ^^^ 2 ^ t < 256 :=
  Nat.xor_lt_two_pow (n := 8) hy (Nat.pow_lt_pow_right (by omega) ht)
theorem xor8 (y : Nat) (hy : y < 256) (t : Int) (h0 : 0 ≤ t) (h8 : t < 8) : bits .xor .u8 (y : Int) (IntKind.u8.wrap (2 ^ min (IntKind.u64.wrap t).toNat 8)) = ((y ^^^ 2 ^ t.toNat : Nat) : Int) := by
  obtain ⟨m, rfl⟩ := Int.eq_ofNat_of_zero_le h0
  have hm : m < 8 := by omega
  have e : IntKind.u8.wrap (2 ^ min (IntKind.u64.wrap (m : Int)).toNat 8) = ((2 ^ m : Nat) : Int) := by
    rcases (by omega : m = 0 ∨ m = 1 ∨ m = 2 ∨ m = 3 ∨ m = 4 ∨ m = 5 ∨ m = 6 ∨ m = 7) with rfl | rfl | rfl | rfl | rfl | rfl | rfl | rfl <;> decide
  rw [e, Int.toNat_natCast]
  have hb : 2 ^ m < 2 ^ 8 := Nat.pow_lt_pow_right (by omega) hm
  have ha' : y % 2 ^ IntKind.u8.bits = y := Nat.mod_eq_of_lt hy
  have hb' : 2 ^ m % 2 ^ IntKind.u8.bits = 2 ^ m := Nat.mod_eq_of_lt hb
  simp only [bits, BitVec.ofInt_natCast, BitVec.toNat_xor, BitVec.toNat_ofNat, ha', hb']
  exact wraps_u8 _ (Int.natCast_nonneg _) (by have := xor_lt y m hy hm; omega)
def crashN (bs : List Int) (safe : Nat) (keep : Int) : Nat := (min (max keep 0) ((bs.length : Int) - safe)).toNat
def crashL (bs : List Int) (safe : Nat) (keep : Int) : List Int := bs.take (safe + crashN bs safe keep)
def crashM (bs : List Int) (safe : Nat) (keep turn : Int) : List Int :=
  if 0 < crashN bs safe keep ∧ 0 ≤ turn ∧ turn < 8 then (crashL bs safe keep).set ((crashL bs safe keep).length - 1) ((Int.toNat ((crashL bs safe keep).getD ((crashL bs safe keep).length - 1) 0) ^^^ 2 ^ turn.toNat : Nat) : Int) else crashL bs safe keep
set_option maxHeartbeats 2000000 in
theorem crash_calls {w0 w : World} {g : Nat} {v : Value} {room : Int} {bs : List Int} {safe : Nat} (D : Dk w0 w g v room bs safe) (keep turn : Int) :
    Calls Try.prog 13 #[.pointer (some ⟨g, 0, none⟩), .int .i64 keep, .int .i64 turn] w fun e w' => e = .returned (.tuple #[]) ∧ ∃ v', Dk w0 w' g v' room (crashM bs safe keep turn) (crashM bs safe keep turn).length ∧ Fr w w' g v v' := by
  obtain ⟨A, c, hv, hc, hcm⟩ := D.slice
  have a1 := D.c1; have a2 := D.c2
  have hft := D.fit; have hr1 := D.room1; have hsf := D.sf
  rw [hv] at a1
  have HD := Lib.hid D
  clear D hv
  go_enter Try.func13, Try.ntmps13
  go_upto_region 1 with fail
  go_cut [6] (fun t wx => t = .int .i64 (crashN bs safe keep : Int) ∧ Drawn0 w wx)
  case first =>
    go_quiet (fail)
    all_goals go_wp2
    all_goals
      go_meet
      case rel =>
        refine ⟨?_, (Drawn0.refl w).step _⟩
        have hcr : ((crashN bs safe keep : Nat) : Int) = min (max keep 0) ((bs.length : Int) - safe) := by unfold crashN; omega
        rw [hcr]
        congr 1
        omega
  case rest =>
    obtain ⟨rfl, hd⟩ := hcut
    obtain ⟨n, hn⟩ : ∃ n, n = crashN bs safe keep := ⟨_, rfl⟩
    have hnl : safe + n ≤ bs.length := by rw [hn]; unfold crashN; omega
    have HN := Lib.hid hn
    have D1 := HD.out.step hd.below
    have b2 := D1.c2
    rw [← hn]
    clear hn
    have HD1 := Lib.hid D1
    clear D1 a1 a2
    go_wp2_with fail
    have e1 : (safe : Int) + (n : Int) = ((safe + n : Nat) : Int) := by omega
    rw [e1]
    clear e1
    refine (cut_ok HD1.out (safe + n) hnl).mono ?_
    rintro e w2 ⟨rfl, v2, D2, F2⟩
    have emin : min safe (safe + n) = safe := by omega
    rw [emin] at D2
    clear emin b2
    have hl2 : (bs.take (safe + n)).length = safe + n := by rw [List.length_take]; omega
    obtain ⟨l, hl⟩ : ∃ l, l = bs.take (safe + n) := ⟨_, rfl⟩
    rw [← hl] at D2 hl2
    have HL : Hid (l = crashL bs safe keep) := Lib.hid (by rw [hl, HN.out]; rfl)
    have HM : Hid (crashM bs safe keep turn = if 0 < n ∧ 0 ≤ turn ∧ turn < 8 then l.set (l.length - 1) ((Int.toNat (l.getD (l.length - 1) 0) ^^^ 2 ^ turn.toNat : Nat) : Int) else l) := Lib.hid (by unfold crashM; rw [← HN.out, ← HL.out])
    clear hl
    have HD2 := Lib.hid D2; have HF2 := Lib.hid F2; have HL2 := Lib.hid hl2
    clear D2 F2 hl2
    by_cases hc : 0 < n ∧ 0 ≤ turn ∧ turn < 8
    · rw [if_pos hc] at HM
      obtain ⟨q1, q2, q3⟩ := hc
      obtain ⟨A3, c3, hv3, hc3, hcm3⟩ := HD2.out.slice
      have k1 := HD2.out.c1
      have hlp : l.length - 1 < l.length := by have := HL2.out; omega
      obtain ⟨x, hx⟩ : ∃ x, x = l.getD (l.length - 1) 0 := ⟨_, rfl⟩
      have hxm : x ∈ l := by rw [hx, List.getD_eq_getElem?_getD, List.getElem?_eq_getElem hlp]; exact List.getElem_mem hlp
      obtain ⟨x0, x1⟩ := HD2.out.byte x hxm
      obtain ⟨y, rfl⟩ := Int.eq_ofNat_of_zero_le x0
      obtain ⟨g3, hA3, hcell, hfz⟩ := HD2.out.row.cellAt hv3 (l.length - 1) (.int .u8 y) (by rw [hx]; simp [nums, List.getD_eq_getElem?_getD, List.getElem?_eq_getElem hlp])
      subst hA3
      rw [hv3] at k1
      rw [← hx, Int.toNat_natCast] at HM
      have HV3 := Lib.hid hv3
      have hl0 : 1 ≤ l.length := by have := HL2.out; omega
      have hl1 : l.length ≤ 1048576 := by have := HD2.out.fit; omega
      clear hv3 hx hxm
      have s1 : IntKind.i64.wrap ((l.length : Int) - 1) = (l.length : Int) - 1 := IntWalk.i64_in _ (by omega)
      have s2 : 0 ≤ (l.length : Int) - 1 := by omega
      have s3 : (l.length : Int) - 1 < (l.length : Int) := by omega
      have s4 : ((l.length : Int) - 1).toNat = l.length - 1 := by omega
      have s5 : 1 ≤ (l.length : Int) := by omega
      have s6 : 0 < (l.length : Int) := by omega
      have s7 : 0 < l.length := by omega
      go_wp2_with fail
      go_still_tail 17, (by kernel_rfl)
      rw [xor8 y (by omega) turn q2 q3]
      change wpList _ _ _ _ _ w2.drew
      have hm1 : (l.set (l.length - 1) ((y ^^^ 2 ^ turn.toNat : Nat) : Int)).length = l.length := List.length_set
      have D3 : Dk w0 (w2.drew.setCell ⟨g3, l.length - 1, none⟩ (.int .u8 ((y ^^^ 2 ^ turn.toNat : Nat) : Int))) g v2 room (l.set (l.length - 1) ((y ^^^ 2 ^ turn.toNat : Nat) : Int)) safe := by
        have D2 := HD2.out.step (w' := w2.drew) (Below.refl _ _).drew
        have hg3 := D2.row.lt g3 (by rw [HV3.out]; rfl)
        obtain ⟨hg30, _, cur, hcur⟩ := hg3
        refine ⟨below_set D2.below hg30, D2.kg, block_set' D2.blk hcur (by decide) _, ?_, D2.room1, by rw [hm1]; exact D2.fit, by rw [hm1]; exact D2.sf, fun x hx => ?_⟩
        · have := D2.row.set HV3.out (l.length - 1) (by rw [nums_length]; omega) (.int .u8 ((y ^^^ 2 ^ turn.toNat : Nat) : Int))
          unfold nums at this ⊢
          rw [List.map_set]; exact this
        · rcases List.mem_or_eq_of_mem_set hx with hx | rfl
          · exact D2.byte x hx
          · have := xor_lt y turn.toNat (by omega) (by omega)
            omega
      have F3 : Fr w2 (w2.drew.setCell ⟨g3, l.length - 1, none⟩ (.int .u8 ((y ^^^ 2 ^ turn.toNat : Nat) : Int))) g v2 v2 :=
        ⟨by simp, fun k _ _ hk => set_other _ (fun e => hk (by rw [HV3.out, e]; rfl)), .inr (.inl rfl)⟩
      have fin : Calls Try.prog 12 #[.pointer (some ⟨g, 0, none⟩)] (w2.drew.setCell ⟨g3, l.length - 1, none⟩ (.int .u8 ((y ^^^ 2 ^ turn.toNat : Nat) : Int))) fun e w' => e = .returned (.tuple #[]) ∧ ∃ v', Dk w0 w' g v' room (crashM bs safe keep turn) (crashM bs safe keep turn).length ∧ Fr w w' g v v' := by
        refine (sync_calls D3).mono ?_
        rintro e w3 ⟨rfl, hd3, hf3⟩
        refine ⟨rfl, v2, ?_, Fr.after hd.below (HF2.out.trans (F3.trans hf3))⟩
        rw [HM.out]; exact hd3
      have FIN := Lib.hid fin
      generalize ((y ^^^ 2 ^ turn.toNat : Nat) : Int) = z at *
      clear fin D3 F3 hm1
      have hcell' : w2.drew.cell? ⟨g3, l.length - 1, none⟩ = some (.int .u8 y) := hcell
      have hfz' : w2.drew.frozen? ⟨g3, l.length - 1, none⟩ = false := hfz
      generalize w2.drew = W3 at *
      go_wp2_with fail
      refine FIN.out.mono ?_
      rintro e w3 ⟨rfl, h⟩
      go_wp2_with fail
      go_end0
      exact ⟨rfl, h⟩
    · rw [if_neg hc] at HM
      have fin : ∀ W, W = w2 → Calls Try.prog 12 #[.pointer (some ⟨g, 0, none⟩)] W fun e w' => e = .returned (.tuple #[]) ∧ ∃ v', Dk w0 w' g v' room (crashM bs safe keep turn) (crashM bs safe keep turn).length ∧ Fr w w' g v v' := by
        rintro W rfl
        refine (sync_calls HD2.out).mono ?_
        rintro e w3 ⟨rfl, hd3, hf3⟩
        refine ⟨rfl, v2, ?_, Fr.after hd.below (HF2.out.trans hf3)⟩
        rw [HM.out]; exact hd3
      have FIN := Lib.hid fin
      clear fin
      by_cases h1 : 0 < n
      · by_cases h2 : 0 ≤ turn
        · have h3 : ¬ turn < 8 := fun h => hc ⟨h1, h2, h⟩
          clear hc
          go_wp2_with fail
          refine (FIN.out _ rfl).mono ?_
          rintro e w3 ⟨rfl, h⟩
          go_wp2_with fail
          go_end0
          exact ⟨rfl, h⟩
        · clear hc
          go_wp2_with fail
          refine (FIN.out _ rfl).mono ?_
          rintro e w3 ⟨rfl, h⟩
          go_wp2_with fail
          go_end0
          exact ⟨rfl, h⟩
      · clear hc
        go_wp2_with fail
        refine (FIN.out _ rfl).mono ?_
        rintro e w3 ⟨rfl, h⟩
        go_wp2_with fail
        go_end0
        exact ⟨rfl, h⟩
end Go.Proofs.Ytmphlgihmggoaaa.DiskM
