import Derived.Test.YtdfpcldoakbehaaDiskM
import Derived.StillTailTactics
import Derived.Laws.BitsLemmas
import Derived.Test.YtdfpcldoakbehaaSShown
import Derived.Lib.Bytes
/- The walk of Crash. -/
namespace Go.Proofs.Ytdfpcldoakbehaa.DiskM
open Go.RowKit Go.Proofs.YtdfpcldoakbehaaW.PrintWords Go.Proofs.YtdfpcldoakbehaaW.PrintLast Go.Proofs.YtdfpcldoakbehaaW.PrintMore Go.Proofs.Ytdfpcldoakbehaa.Row Go.Proofs.Ytdfpcldoakbehaa.Cut
theorem block_set' {w : World} {g g' j : Nat} {t t' : TypeId} {cs cs' : Array Value} (h : w.heap[g]? = some (.cells cs t (0, 0))) (h' : w.heap[g']? = some (.cells cs' t' (0, 0))) (hne : t ≠ t') (v : Value) : (w.setCell ⟨g', j, none⟩ v).heap[g]? = some (.cells cs t (0, 0)) :=
  (Below.heap_setCell w ⟨g', j, none⟩ v g (blk_ne h h' hne)).trans h
theorem xor_lt (y t : Nat) (hy : y < 256) (ht : t < 8) : y ^^^ 2 ^ t < 256 :=
  Nat.xor_lt_two_pow (n := 8) hy (Nat.pow_lt_pow_right (by omega) ht)
theorem xor8 (y : Nat) (hy : y < 256) (t : Int) (h0 : 0 ≤ t) (h8 : t < 8) : bits .xor .u8 (y : Int) (IntKind.u8.wrap (2 ^ min (IntKind.u64.wrap t).toNat 8)) = ((y ^^^ 2 ^ t.toNat : Nat) : Int) := by
  obtain ⟨m, rfl⟩ := Int.eq_ofNat_of_zero_le h0
  have hm : m < 8 := by omega
  have e : IntKind.u8.wrap (2 ^ min (IntKind.u64.wrap (m : Int)).toNat 8) = ((2 ^ m : Nat) : Int) := by
    rcases (by omega : m = 0 ∨ m = 1 ∨ m = 2 ∨ m = 3 ∨ m = 4 ∨ m = 5 ∨ m = 6 ∨ m = 7) with rfl | rfl | rfl | rfl | rfl | rfl | rfl | rfl <;> decide
  rw [e, Int.toNat_natCast]
  have hb : 2 ^ m < 2 ^ 8 := Nat.pow_lt_pow_right (by omega) hm
  have ha' : y % 2 ^ IntKind.u8.bits = y := Nat.mod_eq_of_lt hy
  have hb' : 2 ^ m % 2 ^ IntKind.u8.bits = 2 ^ m := Nat.mod_eq_of_lt hb
  simp only [bits, BitVec.ofInt_natCast, BitVec.toNat_xor, BitVec.toNat_ofNat, ha', hb']
  exact wraps_u8 _ (Int.natCast_nonneg _) (by have := xor_lt y m hy hm; omega)
def crashN (bs : List Int) (safe : Nat) (keep : Int) : Nat := (min (max keep 0) ((bs.length : Int) - safe)).toNat
def crashL (bs : List Int) (safe : Nat) (keep : Int) : List Int := bs.take (safe + crashN bs safe keep)
def crashM (bs : List Int) (safe : Nat) (keep turn : Int) : List Int :=
  if 0 < crashN bs safe keep ∧ 0 ≤ turn ∧ turn < 8 then (crashL bs safe keep).set ((crashL bs safe keep).length - 1) ((Int.toNat ((crashL bs safe keep).getD ((crashL bs safe keep).length - 1) 0) ^^^ 2 ^ turn.toNat : Nat) : Int) else crashL bs safe keep
set_option maxRecDepth 1000000 in
set_option maxHeartbeats 8000000 in
theorem crash_calls {w0 w : World} {g : Nat} {v : Value} {room : Int} {bs : List Int} {safe : Nat} (D : Dk w0 w g v room bs safe) (keep turn : Int) :
    Calls Try.prog 17 #[.pointer (some ⟨g, 0, none⟩), .int .i64 keep, .int .i64 turn] w fun e w' => e = .returned (.tuple #[]) ∧ ∃ v', Dk w0 w' g v' room (crashM bs safe keep turn) (crashM bs safe keep turn).length ∧ Fr w w' g v v' := by
  obtain ⟨A, c, hv, hc, hcm⟩ := D.slice
  have a1 := D.c1; have a2 := D.c2
  have hft := D.fit; have hr1 := D.room1; have hsf := D.sf
  rw [hv] at a1
  have HD := Lib.hid D
  clear D hv
  go_enter Try.func17, Try.ntmps17
  go_upto_region 1 with fail
  go_cut [6] (fun t wx => t = .int .i64 (crashN bs safe keep : Int) ∧ Drawn0 w wx)
  case first =>
    go_quiet (fail)
    all_goals go_wp2
    all_goals
      go_meet
      case rel =>
        refine ⟨?_, (Drawn0.refl w).step _⟩
        have hcr : ((crashN bs safe keep : Nat) : Int) = min (max keep 0) ((bs.length : Int) - safe) := by unfold crashN; omega
        rw [hcr]
        all_goals (congr 1 <;> omega)
  case rest =>
    obtain ⟨rfl, hd⟩ := hcut
    obtain ⟨n, hn⟩ : ∃ n, n = crashN bs safe keep := ⟨_, rfl⟩
    have hnl : safe + n ≤ bs.length := by rw [hn]; unfold crashN; omega
    have HN := Lib.hid hn
    have D1 := HD.out.step hd.below
    have b2 := D1.c2
    rw [← hn]
    clear hn
    have HD1 := Lib.hid D1
    clear D1 a1 a2
    go_wp2_with fail
    have e1 : (safe : Int) + (n : Int) = ((safe + n : Nat) : Int) := by omega
    rw [e1]
    clear e1
    refine (cut_ok HD1.out (safe + n) hnl).mono ?_
    rintro e w2 ⟨rfl, v2, D2, F2⟩
    have emin : min safe (safe + n) = safe := by omega
    rw [emin] at D2
    clear emin b2
    have hl2 : (bs.take (safe + n)).length = safe + n := by rw [List.length_take]; omega
    obtain ⟨l, hl⟩ : ∃ l, l = bs.take (safe + n) := ⟨_, rfl⟩
    rw [← hl] at D2 hl2
    have HL : Hid (l = crashL bs safe keep) := Lib.hid (by rw [hl, HN.out]; rfl)
    have HM : Hid (crashM bs safe keep turn = if 0 < n ∧ 0 ≤ turn ∧ turn < 8 then l.set (l.length - 1) ((Int.toNat (l.getD (l.length - 1) 0) ^^^ 2 ^ turn.toNat : Nat) : Int) else l) := Lib.hid (by unfold crashM; rw [← HN.out, ← HL.out])
    clear hl
    have HD2 := Lib.hid D2; have HF2 := Lib.hid F2; have HL2 := Lib.hid hl2
    clear D2 F2 hl2
    by_cases hc : 0 < n ∧ 0 ≤ turn ∧ turn < 8
    · rw [if_pos hc] at HM
      obtain ⟨q1, q2, q3⟩ := hc
      obtain ⟨A3, c3, hv3, hc3, hcm3⟩ := HD2.out.slice
      have k1 := HD2.out.c1
      have hlp : l.length - 1 < l.length := by have := HL2.out; omega
      obtain ⟨x, hx⟩ : ∃ x, x = l.getD (l.length - 1) 0 := ⟨_, rfl⟩
      have hxm : x ∈ l := by rw [hx, List.getD_eq_getElem?_getD, List.getElem?_eq_getElem hlp]; exact List.getElem_mem hlp
      obtain ⟨x0, x1⟩ := HD2.out.byte x hxm
      obtain ⟨y, rfl⟩ := Int.eq_ofNat_of_zero_le x0
      obtain ⟨g3, hA3, hcell, hfz⟩ := HD2.out.row.cellAt hv3 (l.length - 1) (.int .u8 y) (by rw [hx]; simp [nums, List.getD_eq_getElem?_getD, List.getElem?_eq_getElem hlp])
      subst hA3
      rw [hv3] at k1
      rw [← hx, Int.toNat_natCast] at HM
      have HV3 := Lib.hid hv3
      have hl0 : 1 ≤ l.length := by have := HL2.out; omega
      have hl1 : l.length ≤ 1048576 := by have := HD2.out.fit; omega
      clear hv3 hx hxm
      have s1 : IntKind.i64.wrap ((l.length : Int) - 1) = (l.length : Int) - 1 := IntWalk.i64_in _ (by omega)
      have s2 : 0 ≤ (l.length : Int) - 1 := by omega
      have s3 : (l.length : Int) - 1 < (l.length : Int) := by omega
      have s4 : ((l.length : Int) - 1).toNat = l.length - 1 := by omega
      have s5 : 1 ≤ (l.length : Int) := by omega
      have s6 : 0 < (l.length : Int) := by omega
      have s7 : 0 < l.length := by omega
      go_wp2_with fail
      go_still_tail 17, (by kernel_rfl)
      rw [xor8 y (by omega) turn q2 q3]
      change wpList _ _ _ _ _ w2.drew
      have hm1 : (l.set (l.length - 1) ((y ^^^ 2 ^ turn.toNat : Nat) : Int)).length = l.length := List.length_set
      have D3 : Dk w0 (w2.drew.setCell ⟨g3, l.length - 1, none⟩ (.int .u8 ((y ^^^ 2 ^ turn.toNat : Nat) : Int))) g v2 room (l.set (l.length - 1) ((y ^^^ 2 ^ turn.toNat : Nat) : Int)) safe := by
        have D2 := HD2.out.step (w' := w2.drew) (Below.refl _ _).drew
        have hg3 := D2.row.lt g3 (by rw [HV3.out]; rfl)
        obtain ⟨hg30, _, cur, hcur⟩ := hg3
        refine ⟨below_set D2.below hg30, D2.kg, block_set' D2.blk hcur (by decide) _, ?_, D2.room1, by rw [hm1]; exact D2.fit, by rw [hm1]; exact D2.sf, fun x hx => ?_⟩
        · have := D2.row.set HV3.out (l.length - 1) (by rw [nums_length]; omega) (.int .u8 ((y ^^^ 2 ^ turn.toNat : Nat) : Int))
          unfold nums at this ⊢
          rw [List.map_set]; exact this
        · rcases List.mem_or_eq_of_mem_set hx with hx | rfl
          · exact D2.byte x hx
          · have := xor_lt y turn.toNat (by omega) (by omega)
            omega
      have F3 : Fr w2 (w2.drew.setCell ⟨g3, l.length - 1, none⟩ (.int .u8 ((y ^^^ 2 ^ turn.toNat : Nat) : Int))) g v2 v2 :=
        ⟨by simp, fun k _ _ hk => set_other _ (fun e => hk (by rw [HV3.out, e]; rfl)), .inr (.inl rfl)⟩
      have fin : Calls Try.prog 30 #[.pointer (some ⟨g, 0, none⟩)] (w2.drew.setCell ⟨g3, l.length - 1, none⟩ (.int .u8 ((y ^^^ 2 ^ turn.toNat : Nat) : Int))) fun e w' => e = .returned (.tuple #[]) ∧ ∃ v', Dk w0 w' g v' room (crashM bs safe keep turn) (crashM bs safe keep turn).length ∧ Fr w w' g v v' := by
        refine (sync_calls D3).mono ?_
        rintro e w3 ⟨rfl, hd3, hf3⟩
        refine ⟨rfl, v2, ?_, Fr.after hd.below (HF2.out.trans (F3.trans hf3))⟩
        rw [HM.out]; exact hd3
      have FIN := Lib.hid fin
      generalize ((y ^^^ 2 ^ turn.toNat : Nat) : Int) = z at *
      clear fin D3 F3 hm1
      have hcell' : w2.drew.cell? ⟨g3, l.length - 1, none⟩ = some (.int .u8 y) := hcell
      have hfz' : w2.drew.frozen? ⟨g3, l.length - 1, none⟩ = false := hfz
      generalize w2.drew = W3 at *
      go_wp2_with fail
      refine FIN.out.mono ?_
      rintro e w3 ⟨rfl, h⟩
      go_wp2_with fail
      go_end0
      exact ⟨rfl, h⟩
    · rw [if_neg hc] at HM
      have fin : ∀ W, W = w2 → Calls Try.prog 30 #[.pointer (some ⟨g, 0, none⟩)] W fun e w' => e = .returned (.tuple #[]) ∧ ∃ v', Dk w0 w' g v' room (crashM bs safe keep turn) (crashM bs safe keep turn).length ∧ Fr w w' g v v' := by
        rintro W rfl
        refine (sync_calls HD2.out).mono ?_
        rintro e w3 ⟨rfl, hd3, hf3⟩
        refine ⟨rfl, v2, ?_, Fr.after hd.below (HF2.out.trans hf3)⟩
        rw [HM.out]; exact hd3
      have FIN := Lib.hid fin
      clear fin
      by_cases h1 : 0 < n
      · by_cases h2 : 0 ≤ turn
        · have h3 : ¬ turn < 8 := fun h => hc ⟨h1, h2, h⟩
          clear hc
          go_wp2_with fail
          refine (FIN.out _ rfl).mono ?_
          rintro e w3 ⟨rfl, h⟩
          go_wp2_with fail
          go_end0
          exact ⟨rfl, h⟩
        · clear hc
          go_wp2_with fail
          refine (FIN.out _ rfl).mono ?_
          rintro e w3 ⟨rfl, h⟩
          go_wp2_with fail
          go_end0
          exact ⟨rfl, h⟩
      · clear hc
        go_wp2_with fail
        refine (FIN.out _ rfl).mono ?_
        rintro e w3 ⟨rfl, h⟩
        go_wp2_with fail
        go_end0
        exact ⟨rfl, h⟩
end Go.Proofs.Ytdfpcldoakbehaa.DiskM
/- SlotStays. -/
namespace Go.Proofs.Ytdfpcldoakbehaa.Slot
open Go.RowKit Go.Maps Go.Proofs.YtdfpcldoakbehaaW.PrintWords Go.Proofs.YtdfpcldoakbehaaW.PrintMore Go.Proofs.YtdfpcldoakbehaaW.PrintLast Go.Proofs.Ytdfpcldoakbehaa.Row Go.Proofs.Ytdfpcldoakbehaa.Cut Go.Proofs.Ytdfpcldoakbehaa.DiskM Go.Proofs.Ytdfpcldoakbehaa.Quor
open Go.Proofs.Ytdfpcldoakbehaa.Crc
/- What the laws over deeds share. -/
theorem blk_add (a : Addr) (i : Nat) : (a.add i).block = a.block := by unfold Addr.add; split <;> rfl
abbrev D6 := Int × Int × Int × Int × Int × List Int
abbrev deedK : Kd D6 := Kd.pair (Kd.int .i64) (Kd.pair (Kd.int .i64) (Kd.pair (Kd.int .i64) (Kd.pair (Kd.int .i64) (Kd.pair (Kd.int .i64) (Kd.slice 5 (Kd.int .u8))))))
theorem at_deed {w : World} {A : Option Addr} {n : Nat} {l : List D6} (h : deedK.C w A n l) (i : Nat) (hi : i < n) :
    ∃ ad x1 x2 x3 x4 x5 x6 Ai ci, A = some ad ∧ l[i]? = some (x1, x2, x3, x4, x5, x6) ∧ w.cell? (ad.add (i * 6)) = some (.int .i64 x1) ∧ w.cell? ⟨(ad.add (i * 6)).block, (ad.add (i * 6)).off + 1, none⟩ = some (.int .i64 x2) ∧ w.cell? ⟨(ad.add (i * 6)).block, (ad.add (i * 6)).off + 2, none⟩ = some (.int .i64 x3) ∧ w.cell? ⟨(ad.add (i * 6)).block, (ad.add (i * 6)).off + 3, none⟩ = some (.int .i64 x4) ∧ w.cell? ⟨(ad.add (i * 6)).block, (ad.add (i * 6)).off + 4, none⟩ = some (.int .i64 x5) ∧ w.cell? ⟨(ad.add (i * 6)).block, (ad.add (i * 6)).off + 5, none⟩ = some (.slice Ai x6.length ci) ∧ x6.length ≤ ci ∧ (Kd.int .u8).C w Ai x6.length x6 := by
  obtain ⟨hl, _, h⟩ := h
  obtain ⟨ad, hA, hc⟩ := h (by omega)
  obtain ⟨x, hx⟩ : ∃ x, l[i]? = some x := ⟨_, List.getElem?_eq_getElem (by omega)⟩
  obtain ⟨cs, _, hk, hat⟩ := hc i x hx
  obtain ⟨x1, x2, x3, x4, x5, x6⟩ := x
  obtain ⟨e0, r0, rfl, h0, e1, r1, rfl, h1, e2, r2, rfl, h2, e3, r3, rfl, h3, e4, r4, rfl, h4, Ai, ci, h5, hci, hC⟩ := hk
  obtain rfl : e0 = [.int .i64 x1] := h0
  obtain rfl : e1 = [.int .i64 x2] := h1
  obtain rfl : e2 = [.int .i64 x3] := h2
  obtain rfl : e3 = [.int .i64 x4] := h3
  obtain rfl : e4 = [.int .i64 x5] := h4
  subst h5
  have e : deedK.sz = 6 := rfl
  rw [e] at hat
  have f (j : Nat) : ad.add (i * 6 + (j + 1)) = ⟨(ad.add (i * 6)).block, (ad.add (i * 6)).off + (j + 1), none⟩ := by rw [← Addr.add_add]; rfl
  refine ⟨ad, x1, x2, x3, x4, x5, x6, Ai, ci, hA, hx, hat 0 _ rfl, ?_, ?_, ?_, ?_, ?_, hci, hC⟩
  · rw [← f 0]; exact hat 1 _ rfl
  · rw [← f 1]; exact hat 2 _ rfl
  · rw [← f 2]; exact hat 3 _ rfl
  · rw [← f 3]; exact hat 4 _ rfl
  · rw [← f 4]; exact hat 5 _ rfl
section
variable {w0 w w' : World} {n : NB} {g gd : Nat} {room : Int} {s : S3}
theorem NS.nlt (h : NS w0 w n g gd room s) {k : Nat} (hk : w.heap.size ≤ k) : ¬ SN n k := fun e => by have := h.lt e; omega
theorem NS.foot (h : NS w0 w n g gd room s) {z : C4} (hO : OwnB w' w.heap.size z) : Kd.F (Kd.int .u8) w' (fun k => ¬ SN n k) z.A z.by_.length z.by_ :=
  Kd.F_mono (Kd.R_F (Kd.R_bound hO)) fun _ hk => h.nlt hk.2.1
theorem NS.crash (h : NS w0 w n g gd room s) {v' : Value} (f : Fr w w' gd n.vd v') : Stp w w' (SN n) (DB gd v') := by
  obtain ⟨_, rfl, _⟩ := h
  refine ⟨f.1, fun k hk hs => f.2.1 k hk (fun e => hs (.inl (.inl e))) (fun e => hs (.inl (.inr (.inl e)))), fun k hk => ?_⟩
  rcases hk with e | e
  · exact .inl (.inl (.inl e))
  · rcases f.2.2 with q | q | ⟨b, q, hb⟩
    · rw [q] at e; cases e
    · exact .inl (.inl (.inr (.inl (e.trans q))))
    · rw [q] at e; injection e with e; exact .inr (by omega)
end
theorem foot_step {w w' : World} {S S' : Nat → Prop} {A : Option Addr} {n : Nat} {l : List Int} (h : Kd.F (Kd.int .u8) w (fun k => ¬ S k) A n l) (T : Stp w w' S S') : (Kd.int .u8).C w' A n l :=
  h w' fun k hk hlt => T.keep k hlt hk
theorem strOf_inj : ∀ {a b : List Int}, (∀ x ∈ a, 0 ≤ x ∧ x ≤ 255) → (∀ x ∈ b, 0 ≤ x ∧ x ≤ 255) → strOfNums a = strOfNums b → a = b := by
  intro a b ha hb h
  have h1 : (a.map fun n => UInt8.ofNat n.toNat) = b.map fun n => UInt8.ofNat n.toNat := by
    have := congrArg (fun t : ByteArray => t.data.toList) h
    simpa [strOfNums_data] using this
  clear h
  induction a generalizing b with
  | nil => cases b with
    | nil => rfl
    | cons y r => simp at h1
  | cons x l ih => cases b with
    | nil => simp at h1
    | cons y r =>
      rw [List.map_cons, List.map_cons] at h1
      injection h1 with e1 e2
      have q1 := ha x (by simp)
      have q2 := hb y (by simp)
      have e3 := congrArg UInt8.toNat e1
      rw [UInt8.toNat_ofNat', UInt8.toNat_ofNat', Nat.mod_eq_of_lt (by omega), Nat.mod_eq_of_lt (by omega)] at e3
      have : x = y := by omega
      rw [this, ih (fun z hz => ha z (by simp [hz])) (fun z hz => hb z (by simp [hz])) e2]
theorem crash_synced (bs : List Int) (keep turn : Int) : crashM bs bs.length keep turn = bs := by
  have h : crashN bs bs.length keep = 0 := by unfold crashN; omega
  unfold crashM crashL
  rw [h, if_neg (by omega), Nat.add_zero, List.take_length]
/-- The disk's bytes are frames, and they tell the node. -/
def Inv (s : S3) : Prop := ∃ pls : List (List Int), (∀ p ∈ pls, p.length ≤ 4096) ∧ s.2.2 = framesF pls ∧ foldF pls = (s.1, s.2.1)
theorem Inv.new : Inv (0, [], []) := ⟨[], fun _ h => (by cases h), rfl, rfl⟩
theorem Inv.note {s : S3} (h : Inv s) (p : List Int) (hp : p.length ≤ 4096) : Inv (noteF s p) := by
  obtain ⟨pls, h1, h2, h3⟩ := h
  refine ⟨pls ++ [p], fun x hx => ?_, ?_, ?_⟩
  · rcases List.mem_append.1 hx with hx | hx
    · exact h1 x hx
    · rw [List.mem_singleton.1 hx]; exact hp
  · unfold noteF framesF
    simp only
    rw [h2]
    simp [framesF]
  · rw [foldF_snoc, h3]; rfl
theorem Inv.write {s : S3} (h : Inv s) (ep at_ : Int) (b : List Int) : Inv (writeF s ep at_ b).2 := by
  have hn (hh : ¬ (at_ < 0 ∨ 4096 ≤ at_ ∨ ep < 0 ∨ 1048576 < ep ∨ 2048 < b.length)) : Inv (noteF s (writeP ep.toNat at_.toNat b)) :=
    h.note _ (by have := writeP_len ep.toNat at_.toNat b (by omega) (by omega); omega)
  unfold writeF
  split
  · exact h
  · rename_i hh
    split
    · exact h
    · split
      · exact hn hh
      · split
        · split
          · exact h
          · exact h
        · exact hn hh
theorem Inv.seal {s : S3} (h : Inv s) (ep : Int) : Inv (sealF s ep).2 := by
  unfold sealF
  split
  · exact h
  · split
    · exact h
    · exact h.note _ (by have := sealP_len ep.toNat; omega)
theorem Inv.open_ {s : S3} (h : Inv s) : ((foldF (scanF s.2.2).1).1, (foldF (scanF s.2.2).1).2, s.2.2.take (scanF s.2.2).2) = s := by
  obtain ⟨pls, h1, h2, h3⟩ := h
  have hs := scanF_frames pls [] h1 (.inl rfl)
  rw [List.append_nil, ← h2] at hs
  rw [hs]
  simp only
  rw [h3, List.take_length]
set_option maxRecDepth 1000000 in
set_option maxHeartbeats 16000000 in
theorem stays_calls (A : Option Addr) (cc : Nat) (l : List D6) (w : World) (hK : deedK.C w A l.length l) (hby : ∀ d ∈ l, ∀ x ∈ d.2.2.2.2.2, 0 ≤ x ∧ x ≤ 255) (hbl : ∀ d ∈ l, d.2.2.2.2.2.length ≤ 9223372036854775807) (hat : ∀ d ∈ l, W64 d.2.2.1) :
    Calls Try.prog 7 #[.slice A l.length cc] w fun e w' => e = .returned (.bool true) ∧ Below w.heap.size w w' := by
  obtain ⟨ll, hl2⟩ : ∃ ll, ll = l.length := ⟨_, rfl⟩
  have HK := Lib.hid hK; have HBy := Lib.hid hby; have HL := Lib.hid hl2; have HBl := Lib.hid hbl; have HAt := Lib.hid hat
  rw [← hl2]
  have h1 := shown_calls w
  clear hK hby hl2 hbl hat
  go_enter Try.func7, Try.ntmps7
  go_wp2_with fail
  refine h1.mono ?_
  rintro e w1 ⟨rfl, B1⟩
  have hnew := new_ok (w0 := w) 1048576 B1 (by omega) (by omega)
  clear h1 B1
  go_wp2_with fail
  refine hnew.mono ?_
  rintro e w2 ⟨rfl, D, _⟩
  clear hnew
  generalize w1.heap.size = gd at D
  have hop := open_new D
  clear D
  go_wp2_with fail
  refine hop.mono ?_
  rintro e w3 ⟨n0, g0, rfl, N0, _⟩
  have HN0 := Lib.hid N0
  clear hop N0
  go_wp2_with fail
  go_loopw [6, 7] (fun p i wr => ∃ (k : Nat) (n : NB) (g : Nat) (s : S3), k ≤ ll ∧ k ≤ 60 ∧ p = .pointer (some ⟨g, 0, none⟩) ∧ i = .int .i64 k ∧ NS w wr n g gd 1048576 s ∧ Inv s ∧ s.2.2.length ≤ 2062 * k) (fun _ i _ => ll - (intOf i).toNat)
  case atStart => exact ⟨0, n0, _, _, Nat.zero_le _, by decide, rfl, rfl, HN0.out, Inv.new, by decide⟩
  case round =>
    obtain ⟨k, n, g, s, hk, hk60, rfl, rfl, N, hI, hlen⟩ := hrel
    have hkk : (0 : Int) ≤ (k : Int) := by omega
    by_cases hlt : k < ll ∧ k < 60
    · obtain ⟨hk1, hk2⟩ := hlt
      obtain ⟨ad, x1, x2, x3, x4, x5, x6, Ai, ci, hA, hx, c0, c1, c2, c3, c4, c5, hci, hCx⟩ := at_deed HK.out k (by rw [← HL.out]; exact hk1)
      subst hA
      have hmem := List.mem_of_getElem? hx
      have HX6 := Lib.hid (And.intro (HBy.out _ hmem) (And.intro (HBl.out _ hmem) (And.intro (HAt.out _ hmem) hci)))
      have d0 := pw_cell_below N.all c0
      have d1 := pw_cell_below N.all c1
      have d2 := pw_cell_below N.all c2
      have d3 := pw_cell_below N.all c3
      have d4 := pw_cell_below N.all c4
      have d5 := pw_cell_below N.all c5
      have HCx := Lib.hid hCx
      have hk1i : (k : Int) < (ll : Int) := by omega
      have hk2i : (k : Int) < 60 := by omega
      obtain ⟨xl, hxl⟩ : ∃ xl, xl = x6.length := ⟨_, rfl⟩
      have HXl := Lib.hid hxl
      rw [← hxl] at d5
      obtain ⟨b0, hb0⟩ : ∃ b0, b0 = wr.heap.size := ⟨_, rfl⟩
      have hnb : ¬ SN n b0 := N.nlt (by omega)
      have hbx := heap_alloc_new wr (.cells #[.int .i64 x1, .int .i64 x2, .int .i64 x3, .int .i64 x4, .int .i64 x5, .slice Ai xl ci] 46)
      rw [← hb0] at hbx
      have HB0e := Lib.hid hb0
      have N1 := N.below ((Below.refl _ _).alloc (Nat.le_refl _) (.cells #[.int .i64 x1, .int .i64 x2, .int .i64 x3, .int .i64 x4, .int .i64 x5, .slice Ai xl ci] 46))
      have HN1 := Lib.hid N1
      have HI := Lib.hid hI; have HLen := Lib.hid hlen; have HB0 := Lib.hid (And.intro hbx hnb)
      clear hx c0 c1 c2 c3 c4 c5 hci hCx hmem hxl N N1 hI hlen hbx hnb hb0
      by_cases k2 : x1 = 2
      · subst k2
        have hse := seal_ns HN1.out x2 (by have := HLen.out; omega)
        go_wp2_with fail
        rw [← HB0e.out]
        refine hse.mono ?_
        rintro e w4 ⟨v4, out, n4, rfl, _, _, _, N4, T4⟩
        obtain ⟨r4, hr4⟩ : ∃ r4, r4 = (sealF s x2).1 := ⟨_, rfl⟩
        obtain ⟨s4, hs4⟩ : ∃ s4, s4 = (sealF s x2).2 := ⟨_, rfl⟩
        have hln := sealF_len s x2 HN1.out.rng.1
        rw [← hs4] at N4 hln
        rw [← hr4]
        have HI4 : RowKit.Hid (Inv s4) := Lib.hid (by rw [hs4]; exact HI.out.seal x2)
        have HLen4 : RowKit.Hid (s4.2.2.length ≤ 2062 * (k + 1)) := Lib.hid (by have := HLen.out; omega)
        have HN4 := Lib.hid N4; have HT4 := Lib.hid T4
        clear hse N4 T4 hln hr4 hs4 d0 d1 d2 d3 d4 d5
        have hb4 : w4.heap[b0]? = some (.cells #[.int .i64 2, .int .i64 x2, .int .i64 x3, .int .i64 x4, .int .i64 x5, .slice Ai xl ci] 46 (0, 0)) := (HT4.out.keep b0 (Array.getElem?_eq_some_iff.1 HB0.out.1).1 HB0.out.2).trans HB0.out.1
        have hnb4 : ¬ SN n4 b0 := fun e => (HT4.out.new b0 e).elim HB0.out.2 (fun h => by have := (Array.getElem?_eq_some_iff.1 HB0.out.1).1; omega)
        have hep := epoch_ns HN4.out
        have hta := tail_ns HN4.out
        have HB4 := Lib.hid (And.intro hb4 hnb4)
        clear hb4 hnb4
        go_wp2_with fail
        refine hep.mono ?_
        rintro e w5 ⟨rfl, rfl⟩
        clear hep
        go_wp2_with fail
        refine hta.mono ?_
        rintro e w5 ⟨t1, rfl, hT1, B5⟩
        have hb5 := (B5.block b0 (Array.getElem?_eq_some_iff.1 HB4.out.1).1).trans HB4.out.1
        have p2 := (blk_cell hb5 2).trans rfl
        have N5 := HN4.out.below B5
        have hre := read_ns N5 x3 HX6.out.2.2.1
        have HN5 := Lib.hid N5; have HT1 := Lib.hid hT1; have HB5 := Lib.hid hb5
        clear hta hT1 B5 hb5 N5
        go_wp2_with fail
        refine hre.mono ?_
        rintro e w6 ⟨⟨za, ze, zb, zA, zc⟩, rfl, hz, hOz, B6⟩
        have hF6 := HN5.out.foot hOz
        obtain ⟨zl, hzl⟩ : ∃ zl, zl = zb.length := ⟨_, rfl⟩
        simp only [agg4]
        simp only at hF6
        rw [← hzl] at hF6 ⊢
        obtain ⟨fa, hfa⟩ : ∃ fa, fa = (readF s4.2.1 x3).1 := ⟨_, rfl⟩
        rw [← hfa]
        obtain ⟨ba, hba⟩ : ∃ ba, ba = w6.heap.size := ⟨_, rfl⟩
        have BA := (Below.refl w6.heap.size w6).alloc (Nat.le_refl _) (.cells #[.int .i64 za, .int .i64 ze, .slice zA zl zc] 34)
        have hab := heap_alloc_new w6 (.cells #[.int .i64 za, .int .i64 ze, .slice zA zl zc] 34)
        have hb6 := (BA.block b0 (by have := (Array.getElem?_eq_some_iff.1 HB5.out).1; have := B6.size; omega)).trans ((B6.block b0 (Array.getElem?_eq_some_iff.1 HB5.out).1).trans HB5.out)
        have N6 := (HN5.out.below B6).below BA
        have hna : ¬ SN n4 ba := (HN5.out.below B6).nlt (by omega)
        have hF := Kd.F_below hF6 BA
        rw [← hba] at hab
        have HBa := Lib.hid hba
        have p3 := (blk_cell hb6 3).trans rfl
        have p4 := (blk_cell hb6 4).trans rfl
        have hcr := crash_calls N6.disk x4 x5
        rw [crash_synced] at hcr
        have HZ := Lib.hid (And.intro hz (And.intro hzl hfa))
        have HA6 := Lib.hid (And.intro hab (And.intro hna (And.intro hF hb6)))
        have HN6 := Lib.hid N6
        clear hre hz hOz B6 hF6 hzl hfa BA hab hb6 N6 hna hF p2 hba
        go_wp2_with fail
        rw [← HBa.out]
        refine hcr.mono ?_
        rintro e w7 ⟨rfl, v7, D7, F7⟩
        have T7 := HN6.out.crash F7
        have hop := open_ns D7 HI4.out.open_
        have HT7 := Lib.hid T7
        clear hcr D7 F7 T7 p3 p4
        go_wp2_with fail
        refine hop.mono ?_
        rintro e w8 ⟨n8, g8, rfl, N8, T8⟩
        have T := HT7.out.trans T8
        have ha8 := (T.keep ba (Array.getElem?_eq_some_iff.1 HA6.out.1).1 HA6.out.2.1).trans HA6.out.1
        have hb8 := (T.keep b0 (Array.getElem?_eq_some_iff.1 HA6.out.2.2.2).1 HB4.out.2).trans HA6.out.2.2.2
        have hC8 := foot_step HA6.out.2.2.1 T
        have p2 := (blk_cell hb8 2).trans rfl
        have hre := read_ns N8 x3 HX6.out.2.2.1
        have H8 := Lib.hid (And.intro N8 (And.intro ha8 hC8))
        clear hop N8 T8 T ha8 hb8 hC8
        go_wp2_with fail
        refine hre.mono ?_
        rintro e w9 ⟨⟨ya, ye, yb, yA, yc⟩, rfl, hy, hOy, B9⟩
        obtain ⟨hz, hzl, hfa⟩ := HZ.out
        have hyz := hy.trans hz.symm
        obtain ⟨rfl, rfl, rfl⟩ : ya = za ∧ ye = ze ∧ yb = zb := by
          have h1 := congrArg (fun t : B3 => t.1) hyz
          have h2 := congrArg (fun t : B3 => t.2.1) hyz
          have h3 := congrArg (fun t : B3 => t.2.2) hyz
          exact ⟨h1, h2, h3⟩
        simp only [agg4]
        rw [← hzl, ← hfa]
        have BC := (Below.refl w9.heap.size w9).alloc (Nat.le_refl _) (.cells #[.int .i64 ya, .int .i64 ye, .slice yA zl yc] 34)
        have hcb := heap_alloc_new w9 (.cells #[.int .i64 ya, .int .i64 ye, .slice yA zl yc] 34)
        have B89 := below_step B9 BC
        have ha9 := (B89.block ba (Array.getElem?_eq_some_iff.1 H8.out.2.1).1).trans H8.out.2.1
        have hCa := Kd.C_below H8.out.2.2 B89
        obtain ⟨_, _, hCy0⟩ := Kd.R_reads' (OwnB.below hOy BC)
        simp only at hCy0
        rw [← hzl] at hCy0
        have N9 := H8.out.1.below B89
        have hep := epoch_ns N9
        have hta := tail_ns N9
        obtain ⟨bc, hbc⟩ : ∃ bc, bc = w9.heap.size := ⟨_, rfl⟩
        rw [← hbc] at hcb
        have HBc := Lib.hid hbc
        have HN9 := Lib.hid N9
        have H9 := Lib.hid (And.intro ha9 (And.intro hcb (And.intro hCa hCy0)))
        clear hre hy hyz hOy B9 hz hzl hfa BC hcb B89 ha9 hCa hCy0 N9 p2 hbc
        go_wp2_with fail
        rw [← HBc.out]
        refine hep.mono ?_
        rintro e w10 ⟨rfl, rfl⟩
        clear hep
        go_wp2_with fail
        refine hta.mono ?_
        rintro e w10 ⟨t2, rfl, hT2, B10⟩
        obtain rfl : t2 = t1 := IsTail.uniq hT2 HT1.out
        have ha10 := (B10.block ba (Array.getElem?_eq_some_iff.1 H9.out.1).1).trans H9.out.1
        have hc10 := (B10.block bc (Array.getElem?_eq_some_iff.1 H9.out.2.1).1).trans H9.out.2.1
        have a1 := (blk_cell ha10 1).trans rfl
        have a2 := (blk_cell ha10 2).trans rfl
        have y1 := (blk_cell hc10 1).trans rfl
        have y2 := (blk_cell hc10 2).trans rfl
        obtain ⟨S, hS⟩ : ∃ S, S = strOfNums yb := ⟨_, rfl⟩
        have s1 := Kd.C_string (c := zc) Try.underlying23 Try.underlying5 Try.underlying9 (Kd.C_below H9.out.2.2.1 B10)
        have s2 := Kd.C_string (c := yc) Try.underlying23 Try.underlying5 Try.underlying9 (Kd.C_below H9.out.2.2.2 B10)
        rw [← hS] at s1 s2
        have HN10 := Lib.hid (HN9.out.below B10)
        clear hta hT2 B10 ha10 hc10 hS
        go_wp2_with fail
        go_roundw
        case rel => exact ⟨k + 1, n8, g8, s4, by omega, by omega, rfl, by go_num, HN10.out, HI4.out, HLen4.out⟩
        case measure => simp [intOf]; omega
      · have hwr := write_ns HN1.out x2 x3 Ai ci x6 (Kd.C_below HCx.out HN1.out.all) HX6.out.2.2.2 HX6.out.1 HX6.out.2.1 (by have := HLen.out; omega)
        rw [← HXl.out] at hwr
        go_wp2_with fail
        rw [← HB0e.out]
        refine hwr.mono ?_
        rintro e w4 ⟨n4, rfl, N4, T4⟩
        obtain ⟨r4, hr4⟩ : ∃ r4, r4 = (writeF s x2 x3 x6).1 := ⟨_, rfl⟩
        obtain ⟨s4, hs4⟩ : ∃ s4, s4 = (writeF s x2 x3 x6).2 := ⟨_, rfl⟩
        have hln := writeF_len s x2 x3 x6
        rw [← hs4] at N4 hln
        rw [← hr4]
        have HI4 : RowKit.Hid (Inv s4) := Lib.hid (by rw [hs4]; exact HI.out.write x2 x3 x6)
        have HLen4 : RowKit.Hid (s4.2.2.length ≤ 2062 * (k + 1)) := Lib.hid (by have := HLen.out; omega)
        have HN4 := Lib.hid N4; have HT4 := Lib.hid T4
        clear hwr N4 T4 hln hr4 hs4 d0 d1 d2 d3 d4 d5
        have hb4 : w4.heap[b0]? = some (.cells #[.int .i64 x1, .int .i64 x2, .int .i64 x3, .int .i64 x4, .int .i64 x5, .slice Ai xl ci] 46 (0, 0)) := (HT4.out.keep b0 (Array.getElem?_eq_some_iff.1 HB0.out.1).1 HB0.out.2).trans HB0.out.1
        have hnb4 : ¬ SN n4 b0 := fun e => (HT4.out.new b0 e).elim HB0.out.2 (fun h => by have := (Array.getElem?_eq_some_iff.1 HB0.out.1).1; omega)
        have hep := epoch_ns HN4.out
        have hta := tail_ns HN4.out
        have HB4 := Lib.hid (And.intro hb4 hnb4)
        clear hb4 hnb4
        go_wp2_with fail
        refine hep.mono ?_
        rintro e w5 ⟨rfl, rfl⟩
        clear hep
        go_wp2_with fail
        refine hta.mono ?_
        rintro e w5 ⟨t1, rfl, hT1, B5⟩
        have hb5 := (B5.block b0 (Array.getElem?_eq_some_iff.1 HB4.out.1).1).trans HB4.out.1
        have p2 := (blk_cell hb5 2).trans rfl
        have N5 := HN4.out.below B5
        have hre := read_ns N5 x3 HX6.out.2.2.1
        have HN5 := Lib.hid N5; have HT1 := Lib.hid hT1; have HB5 := Lib.hid hb5
        clear hta hT1 B5 hb5 N5
        go_wp2_with fail
        refine hre.mono ?_
        rintro e w6 ⟨⟨za, ze, zb, zA, zc⟩, rfl, hz, hOz, B6⟩
        have hF6 := HN5.out.foot hOz
        obtain ⟨zl, hzl⟩ : ∃ zl, zl = zb.length := ⟨_, rfl⟩
        simp only [agg4]
        simp only at hF6
        rw [← hzl] at hF6 ⊢
        obtain ⟨fa, hfa⟩ : ∃ fa, fa = (readF s4.2.1 x3).1 := ⟨_, rfl⟩
        rw [← hfa]
        obtain ⟨ba, hba⟩ : ∃ ba, ba = w6.heap.size := ⟨_, rfl⟩
        have BA := (Below.refl w6.heap.size w6).alloc (Nat.le_refl _) (.cells #[.int .i64 za, .int .i64 ze, .slice zA zl zc] 34)
        have hab := heap_alloc_new w6 (.cells #[.int .i64 za, .int .i64 ze, .slice zA zl zc] 34)
        have hb6 := (BA.block b0 (by have := (Array.getElem?_eq_some_iff.1 HB5.out).1; have := B6.size; omega)).trans ((B6.block b0 (Array.getElem?_eq_some_iff.1 HB5.out).1).trans HB5.out)
        have N6 := (HN5.out.below B6).below BA
        have hna : ¬ SN n4 ba := (HN5.out.below B6).nlt (by omega)
        have hF := Kd.F_below hF6 BA
        rw [← hba] at hab
        have HBa := Lib.hid hba
        have p3 := (blk_cell hb6 3).trans rfl
        have p4 := (blk_cell hb6 4).trans rfl
        have hcr := crash_calls N6.disk x4 x5
        rw [crash_synced] at hcr
        have HZ := Lib.hid (And.intro hz (And.intro hzl hfa))
        have HA6 := Lib.hid (And.intro hab (And.intro hna (And.intro hF hb6)))
        have HN6 := Lib.hid N6
        clear hre hz hOz B6 hF6 hzl hfa BA hab hb6 N6 hna hF p2 hba
        go_wp2_with fail
        rw [← HBa.out]
        refine hcr.mono ?_
        rintro e w7 ⟨rfl, v7, D7, F7⟩
        have T7 := HN6.out.crash F7
        have hop := open_ns D7 HI4.out.open_
        have HT7 := Lib.hid T7
        clear hcr D7 F7 T7 p3 p4
        go_wp2_with fail
        refine hop.mono ?_
        rintro e w8 ⟨n8, g8, rfl, N8, T8⟩
        have T := HT7.out.trans T8
        have ha8 := (T.keep ba (Array.getElem?_eq_some_iff.1 HA6.out.1).1 HA6.out.2.1).trans HA6.out.1
        have hb8 := (T.keep b0 (Array.getElem?_eq_some_iff.1 HA6.out.2.2.2).1 HB4.out.2).trans HA6.out.2.2.2
        have hC8 := foot_step HA6.out.2.2.1 T
        have p2 := (blk_cell hb8 2).trans rfl
        have hre := read_ns N8 x3 HX6.out.2.2.1
        have H8 := Lib.hid (And.intro N8 (And.intro ha8 hC8))
        clear hop N8 T8 T ha8 hb8 hC8
        go_wp2_with fail
        refine hre.mono ?_
        rintro e w9 ⟨⟨ya, ye, yb, yA, yc⟩, rfl, hy, hOy, B9⟩
        obtain ⟨hz, hzl, hfa⟩ := HZ.out
        have hyz := hy.trans hz.symm
        obtain ⟨rfl, rfl, rfl⟩ : ya = za ∧ ye = ze ∧ yb = zb := by
          have h1 := congrArg (fun t : B3 => t.1) hyz
          have h2 := congrArg (fun t : B3 => t.2.1) hyz
          have h3 := congrArg (fun t : B3 => t.2.2) hyz
          exact ⟨h1, h2, h3⟩
        simp only [agg4]
        rw [← hzl, ← hfa]
        have BC := (Below.refl w9.heap.size w9).alloc (Nat.le_refl _) (.cells #[.int .i64 ya, .int .i64 ye, .slice yA zl yc] 34)
        have hcb := heap_alloc_new w9 (.cells #[.int .i64 ya, .int .i64 ye, .slice yA zl yc] 34)
        have B89 := below_step B9 BC
        have ha9 := (B89.block ba (Array.getElem?_eq_some_iff.1 H8.out.2.1).1).trans H8.out.2.1
        have hCa := Kd.C_below H8.out.2.2 B89
        obtain ⟨_, _, hCy0⟩ := Kd.R_reads' (OwnB.below hOy BC)
        simp only at hCy0
        rw [← hzl] at hCy0
        have N9 := H8.out.1.below B89
        have hep := epoch_ns N9
        have hta := tail_ns N9
        obtain ⟨bc, hbc⟩ : ∃ bc, bc = w9.heap.size := ⟨_, rfl⟩
        rw [← hbc] at hcb
        have HBc := Lib.hid hbc
        have HN9 := Lib.hid N9
        have H9 := Lib.hid (And.intro ha9 (And.intro hcb (And.intro hCa hCy0)))
        clear hre hy hyz hOy B9 hz hzl hfa BC hcb B89 ha9 hCa hCy0 N9 p2 hbc
        go_wp2_with fail
        rw [← HBc.out]
        refine hep.mono ?_
        rintro e w10 ⟨rfl, rfl⟩
        clear hep
        go_wp2_with fail
        refine hta.mono ?_
        rintro e w10 ⟨t2, rfl, hT2, B10⟩
        obtain rfl : t2 = t1 := IsTail.uniq hT2 HT1.out
        have ha10 := (B10.block ba (Array.getElem?_eq_some_iff.1 H9.out.1).1).trans H9.out.1
        have hc10 := (B10.block bc (Array.getElem?_eq_some_iff.1 H9.out.2.1).1).trans H9.out.2.1
        have a1 := (blk_cell ha10 1).trans rfl
        have a2 := (blk_cell ha10 2).trans rfl
        have y1 := (blk_cell hc10 1).trans rfl
        have y2 := (blk_cell hc10 2).trans rfl
        obtain ⟨S, hS⟩ : ∃ S, S = strOfNums yb := ⟨_, rfl⟩
        have s1 := Kd.C_string (c := zc) Try.underlying23 Try.underlying5 Try.underlying9 (Kd.C_below H9.out.2.2.1 B10)
        have s2 := Kd.C_string (c := yc) Try.underlying23 Try.underlying5 Try.underlying9 (Kd.C_below H9.out.2.2.2 B10)
        rw [← hS] at s1 s2
        have HN10 := Lib.hid (HN9.out.below B10)
        clear hta hT2 B10 ha10 hc10 hS
        go_wp2_with fail
        go_roundw
        case rel => exact ⟨k + 1, n8, g8, s4, by omega, by omega, rfl, by go_num, HN10.out, HI4.out, HLen4.out⟩
        case measure => simp [intOf]; omega
    · have HN := Lib.hid N
      have hcond : (ll : Int) ≤ (k : Int) ∨ (k : Int) < (ll : Int) ∧ 60 ≤ (k : Int) := by omega
      clear N hI hlen hlt
      rcases hcond with hcond | ⟨hcond, hcond2⟩
      all_goals
        go_wp2_with fail
        go_ret
        exact ⟨rfl, HN.out.all⟩
end Go.Proofs.Ytdfpcldoakbehaa.Slot
