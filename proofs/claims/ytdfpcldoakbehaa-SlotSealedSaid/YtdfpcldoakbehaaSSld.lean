import Derived.Test.YtdfpcldoakbehaaSShown
import Derived.Lib.Bytes
/- SlotSealed. -/
namespace Go.Proofs.Ytdfpcldoakbehaa.Slot
open Go.RowKit Go.Maps Go.Proofs.YtdfpcldoakbehaaW.PrintWords Go.Proofs.YtdfpcldoakbehaaW.PrintMore Go.Proofs.YtdfpcldoakbehaaW.PrintLast Go.Proofs.Ytdfpcldoakbehaa.Row Go.Proofs.Ytdfpcldoakbehaa.Cut Go.Proofs.Ytdfpcldoakbehaa.DiskM Go.Proofs.Ytdfpcldoakbehaa.Quor
open Go.Proofs.Ytdfpcldoakbehaa.Crc
/- What the laws over deeds share. -/
theorem blk_add (a : Addr) (i : Nat) : (a.add i).block = a.block := by unfold Addr.add; split <;> rfl
abbrev D6 := Int × Int × Int × Int × Int × List Int
abbrev deedK : Kd D6 := Kd.pair (Kd.int .i64) (Kd.pair (Kd.int .i64) (Kd.pair (Kd.int .i64) (Kd.pair (Kd.int .i64) (Kd.pair (Kd.int .i64) (Kd.slice 5 (Kd.int .u8))))))
theorem at_deed {w : World} {A : Option Addr} {n : Nat} {l : List D6} (h : deedK.C w A n l) (i : Nat) (hi : i < n) :
    ∃ ad x1 x2 x3 x4 x5 x6 Ai ci, A = some ad ∧ l[i]? = some (x1, x2, x3, x4, x5, x6) ∧ w.cell? (ad.add (i * 6)) = some (.int .i64 x1) ∧ w.cell? ⟨(ad.add (i * 6)).block, (ad.add (i * 6)).off + 1, none⟩ = some (.int .i64 x2) ∧ w.cell? ⟨(ad.add (i * 6)).block, (ad.add (i * 6)).off + 2, none⟩ = some (.int .i64 x3) ∧ w.cell? ⟨(ad.add (i * 6)).block, (ad.add (i * 6)).off + 3, none⟩ = some (.int .i64 x4) ∧ w.cell? ⟨(ad.add (i * 6)).block, (ad.add (i * 6)).off + 4, none⟩ = some (.int .i64 x5) ∧ w.cell? ⟨(ad.add (i * 6)).block, (ad.add (i * 6)).off + 5, none⟩ = some (.slice Ai x6.length ci) ∧ x6.length ≤ ci ∧ (Kd.int .u8).C w Ai x6.length x6 := by
  obtain ⟨hl, _, h⟩ := h
  obtain ⟨ad, hA, hc⟩ := h (by omega)
  obtain ⟨x, hx⟩ : ∃ x, l[i]? = some x := ⟨_, List.getElem?_eq_getElem (by omega)⟩
  obtain ⟨cs, _, hk, hat⟩ := hc i x hx
  obtain ⟨x1, x2, x3, x4, x5, x6⟩ := x
  obtain ⟨e0, r0, rfl, h0, e1, r1, rfl, h1, e2, r2, rfl, h2, e3, r3, rfl, h3, e4, r4, rfl, h4, Ai, ci, h5, hci, hC⟩ := hk
  obtain rfl : e0 = [.int .i64 x1] := h0
  obtain rfl : e1 = [.int .i64 x2] := h1
  obtain rfl : e2 = [.int .i64 x3] := h2
  obtain rfl : e3 = [.int .i64 x4] := h3
  obtain rfl : e4 = [.int .i64 x5] := h4
  subst h5
  have e : deedK.sz = 6 := rfl
  rw [e] at hat
  have f (j : Nat) : ad.add (i * 6 + (j + 1)) = ⟨(ad.add (i * 6)).block, (ad.add (i * 6)).off + (j + 1), none⟩ := by rw [← Addr.add_add]; rfl
  refine ⟨ad, x1, x2, x3, x4, x5, x6, Ai, ci, hA, hx, hat 0 _ rfl, ?_, ?_, ?_, ?_, ?_, hci, hC⟩
  · rw [← f 0]; exact hat 1 _ rfl
  · rw [← f 1]; exact hat 2 _ rfl
  · rw [← f 2]; exact hat 3 _ rfl
  · rw [← f 3]; exact hat 4 _ rfl
  · rw [← f 4]; exact hat 5 _ rfl
section
variable {w0 w w' : World} {n : NB} {g gd : Nat} {room : Int} {s : S3}
theorem NS.nlt (h : NS w0 w n g gd room s) {k : Nat} (hk : w.heap.size ≤ k) : ¬ SN n k := fun e => by have := h.lt e; omega
theorem NS.foot (h : NS w0 w n g gd room s) {z : C4} (hO : OwnB w' w.heap.size z) : Kd.F (Kd.int .u8) w' (fun k => ¬ SN n k) z.A z.by_.length z.by_ :=
  Kd.F_mono (Kd.R_F (Kd.R_bound hO)) fun _ hk => h.nlt hk.2.1
theorem NS.crash (h : NS w0 w n g gd room s) {v' : Value} (f : Fr w w' gd n.vd v') : Stp w w' (SN n) (DB gd v') := by
  obtain ⟨_, rfl, _⟩ := h
  refine ⟨f.1, fun k hk hs => f.2.1 k hk (fun e => hs (.inl (.inl e))) (fun e => hs (.inl (.inr (.inl e)))), fun k hk => ?_⟩
  rcases hk with e | e
  · exact .inl (.inl (.inl e))
  · rcases f.2.2 with q | q | ⟨b, q, hb⟩
    · rw [q] at e; cases e
    · exact .inl (.inl (.inr (.inl (e.trans q))))
    · rw [q] at e; injection e with e; exact .inr (by omega)
end
theorem foot_step {w w' : World} {S S' : Nat → Prop} {A : Option Addr} {n : Nat} {l : List Int} (h : Kd.F (Kd.int .u8) w (fun k => ¬ S k) A n l) (T : Stp w w' S S') : (Kd.int .u8).C w' A n l :=
  h w' fun k hk hlt => T.keep k hlt hk
theorem strOf_inj : ∀ {a b : List Int}, (∀ x ∈ a, 0 ≤ x ∧ x ≤ 255) → (∀ x ∈ b, 0 ≤ x ∧ x ≤ 255) → strOfNums a = strOfNums b → a = b := by
  intro a b ha hb h
  have h1 : (a.map fun n => UInt8.ofNat n.toNat) = b.map fun n => UInt8.ofNat n.toNat := by
    have := congrArg (fun t : ByteArray => t.data.toList) h
    simpa [strOfNums_data] using this
  clear h
  induction a generalizing b with
  | nil => cases b with
    | nil => rfl
    | cons y r => simp at h1
  | cons x l ih => cases b with
    | nil => simp at h1
    | cons y r =>
      rw [List.map_cons, List.map_cons] at h1
      injection h1 with e1 e2
      have q1 := ha x (by simp)
      have q2 := hb y (by simp)
      have e3 := congrArg UInt8.toNat e1
      rw [UInt8.toNat_ofNat', UInt8.toNat_ofNat', Nat.mod_eq_of_lt (by omega), Nat.mod_eq_of_lt (by omega)] at e3
      have : x = y := by omega
      rw [this, ih (fun z hz => ha z (by simp [hz])) (fun z hz => hb z (by simp [hz])) e2]
theorem sealed_pure (s : S3) (ep a : Int) (b : List Int) :
    ((writeF s ep a b).1 ≠ 0 ∧ readF (writeF s ep a b).2.2.1 a = readF s.2.1 a) ∨
    ((writeF s ep a b).1 = 0 ∧ s.1 ≤ ep ∧ readF (writeF s ep a b).2.2.1 a = (0, (a, ep, b)) ∧ ((readF s.2.1 a).1 ≠ 0 ∨ (readF s.2.1 a).2.2.1 < ep ∨ (readF s.2.1 a).2 = (a, ep, b))) := by
  rcases writeF_cases s ep a b with ⟨_, h⟩ | ⟨_, _, h⟩ | ⟨_, he, hl, h⟩ | ⟨_, _, _, h⟩ | ⟨_, he, hf, h⟩ <;> rw [h]
  · exact .inl ⟨(by simp), rfl⟩
  · exact .inl ⟨(by simp), rfl⟩
  · have hr : readF s.2.1 a = (0, (a, ep, b)) := by unfold readF; rw [hl]
    exact .inr ⟨rfl, he, hr, .inr (.inr (by rw [hr]))⟩
  · exact .inl ⟨(by simp), rfl⟩
  · have hr : readF (wrote s ep a b).2.1 a = (0, (a, ep, b)) := by unfold readF; rw [look_wrote, if_pos rfl]
    refine .inr ⟨rfl, he, hr, ?_⟩
    rcases hf with hf | ⟨d, hf, hd⟩
    · exact .inl (by unfold readF; rw [hf]; simp)
    · exact .inr (.inl (by unfold readF; rw [hf]; exact hd))
set_option maxRecDepth 1000000 in
set_option maxHeartbeats 16000000 in
theorem sealed_calls (A : Option Addr) (cc : Nat) (l : List D6) (w : World) (hK : deedK.C w A l.length l) (hby : ∀ d ∈ l, ∀ x ∈ d.2.2.2.2.2, 0 ≤ x ∧ x ≤ 255) (hbl : ∀ d ∈ l, d.2.2.2.2.2.length ≤ 9223372036854775807) (hat : ∀ d ∈ l, W64 d.2.2.1) :
    Calls Try.prog 5 #[.slice A l.length cc] w fun e w' => e = .returned (.bool true) ∧ Below w.heap.size w w' := by
  obtain ⟨ll, hl2⟩ : ∃ ll, ll = l.length := ⟨_, rfl⟩
  have HK := Lib.hid hK; have HBy := Lib.hid hby; have HL := Lib.hid hl2; have HBl := Lib.hid hbl; have HAt := Lib.hid hat
  rw [← hl2]
  have h1 := shown_calls w
  clear hK hby hl2 hbl hat
  go_enter Try.func5, Try.ntmps5
  go_wp2_with fail
  refine h1.mono ?_
  rintro e w1 ⟨rfl, B1⟩
  have hnew := new_ok (w0 := w) 1048576 B1 (by omega) (by omega)
  clear h1 B1
  go_wp2_with fail
  refine hnew.mono ?_
  rintro e w2 ⟨rfl, D, _⟩
  clear hnew
  generalize w1.heap.size = gd at D
  have hop := open_new D
  clear D
  go_wp2_with fail
  refine hop.mono ?_
  rintro e w3 ⟨n0, g, rfl, N0, _⟩
  have HN0 := Lib.hid N0
  clear hop N0
  go_wp2_with fail
  go_loopw [7] (fun i wr => ∃ (k : Nat) (n : NB) (s : S3), k ≤ ll ∧ k ≤ 80 ∧ i = .int .i64 k ∧ NS w wr n g gd 1048576 s ∧ s.2.2.length ≤ 2062 * k) (fun i _ => ll - (intOf i).toNat)
  case atStart => exact ⟨0, n0, _, Nat.zero_le _, by decide, rfl, HN0.out, by decide⟩
  case round =>
    obtain ⟨k, n, s, hk, hk80, rfl, N, hlen⟩ := hrel
    have hkk : (0 : Int) ≤ (k : Int) := by omega
    by_cases hlt : k < ll ∧ k < 80
    · obtain ⟨hk1, hk2⟩ := hlt
      obtain ⟨ad, x1, x2, x3, x4, x5, x6, Ai, ci, hA, hx, c0, c1, c2, c3, c4, c5, hci, hCx⟩ := at_deed HK.out k (by rw [← HL.out]; exact hk1)
      subst hA
      have hmem := List.mem_of_getElem? hx
      have HX6 := Lib.hid (And.intro (HBy.out _ hmem) (And.intro (HBl.out _ hmem) (And.intro (HAt.out _ hmem) hci)))
      have d0 := pw_cell_below N.all c0
      have d1 := pw_cell_below N.all c1
      have d2 := pw_cell_below N.all c2
      have d3 := pw_cell_below N.all c3
      have d4 := pw_cell_below N.all c4
      have d5 := pw_cell_below N.all c5
      have HCx := Lib.hid hCx
      have hk1i : (k : Int) < (ll : Int) := by omega
      have hk2i : (k : Int) < 80 := by omega
      obtain ⟨xl, hxl⟩ : ∃ xl, xl = x6.length := ⟨_, rfl⟩
      have HXl := Lib.hid hxl
      rw [← hxl] at d5
      obtain ⟨b0, hb0⟩ : ∃ b0, b0 = wr.heap.size := ⟨_, rfl⟩
      have hnb : ¬ SN n b0 := N.nlt (by omega)
      have hbx := heap_alloc_new wr (.cells #[.int .i64 x1, .int .i64 x2, .int .i64 x3, .int .i64 x4, .int .i64 x5, .slice Ai xl ci] 46)
      rw [← hb0] at hbx
      have HB0e := Lib.hid hb0
      have N1 := N.below ((Below.refl _ _).alloc (Nat.le_refl _) (.cells #[.int .i64 x1, .int .i64 x2, .int .i64 x3, .int .i64 x4, .int .i64 x5, .slice Ai xl ci] 46))
      have hre := read_ns N1 x3 HX6.out.2.2.1
      have HN1 := Lib.hid N1
      have HLen := Lib.hid hlen; have HB0 := Lib.hid (And.intro hbx hnb)
      clear hx c0 c1 c2 c3 c4 c5 hci hCx hmem hxl N N1 hlen hbx hnb hb0
      go_wp2_with fail
      rw [← HB0e.out]
      refine hre.mono ?_
      rintro e w4 ⟨⟨za, ze, zb, zA, zc⟩, rfl, hz, hOz, B4⟩
      have hF6 := HN1.out.foot hOz
      obtain ⟨zl, hzl⟩ : ∃ zl, zl = zb.length := ⟨_, rfl⟩
      simp only [agg4]
      simp only at hF6
      rw [← hzl] at hF6 ⊢
      obtain ⟨fa, hfa⟩ : ∃ fa, fa = (readF s.2.1 x3).1 := ⟨_, rfl⟩
      rw [← hfa]
      obtain ⟨ba, hba⟩ : ∃ ba, ba = w4.heap.size := ⟨_, rfl⟩
      have BA := (Below.refl w4.heap.size w4).alloc (Nat.le_refl _) (.cells #[.int .i64 za, .int .i64 ze, .slice zA zl zc] 34)
      have hab := heap_alloc_new w4 (.cells #[.int .i64 za, .int .i64 ze, .slice zA zl zc] 34)
      have hb4 := ((below_step B4 BA).block b0 (Array.getElem?_eq_some_iff.1 HB0.out.1).1).trans HB0.out.1
      have N4 := HN1.out.below (below_step B4 BA)
      have hna : ¬ SN n ba := (HN1.out.below B4).nlt (by omega)
      have hF := Kd.F_below hF6 BA
      rw [← hba] at hab
      have HBa := Lib.hid hba
      have p0 := (blk_cell hb4 0).trans rfl
      have p1 := (blk_cell hb4 1).trans rfl
      have p2 := (blk_cell hb4 2).trans rfl
      have p5 := (blk_cell hb4 5).trans rfl
      have hep := epoch_ns N4
      obtain ⟨ep0, hep0⟩ : ∃ ep0, ep0 = s.1 := ⟨_, rfl⟩
      rw [← hep0] at hep
      have HEp := Lib.hid hep0
      have HZ := Lib.hid (And.intro hz (And.intro hzl hfa))
      have HA4 := Lib.hid (And.intro hab (And.intro hna (And.intro hF hb4)))
      have HN4 := Lib.hid N4
      clear hre hz hOz B4 hF6 hzl hfa BA hab hb4 N4 hna hF hba d0 d1 d2 d3 d4 d5 hep0
      go_wp2_with fail
      rw [← HBa.out]
      refine hep.mono ?_
      rintro e w5 ⟨rfl, rfl⟩
      clear hep
      by_cases k2 : x1 = 2
      · subst k2
        have hse := seal_ns HN4.out x2 (by have := HLen.out; omega)
        obtain ⟨r4, hr4⟩ : ∃ r4, r4 = (sealF s x2).1 := ⟨_, rfl⟩
        obtain ⟨s4, hs4⟩ : ∃ s4, s4 = (sealF s x2).2 := ⟨_, rfl⟩
        have hcs := sealF_cases s x2 HN4.out.rng.1
        have hln := sealF_len s x2 HN4.out.rng.1
        have hPr : (r4 ≠ 0 ∧ (x2 ≤ ep0 ∨ ep0 < x2 ∧ 1048576 < x2)) ∨ (r4 = 0 ∧ ep0 < x2 ∧ x2 ≤ 1048576 ∧ s4.1 = x2) := by
          rw [HEp.out]
          rcases hcs with ⟨h1, r, h2, h3⟩ | ⟨h1, h2, h3⟩
          · rw [hr4, h3]; exact .inl ⟨h2, by omega⟩
          · rw [hr4, hs4, h3]; exact .inr ⟨rfl, h1, h2, rfl⟩
        go_wp2_with fail
        refine hse.mono ?_
        rintro e w5 ⟨v4, out, n4, rfl, _, _, _, N5, T5⟩
        rw [← hs4] at N5 hln
        rw [← hr4]
        have hb5 := (T5.keep b0 (Array.getElem?_eq_some_iff.1 HA4.out.2.2.2).1 HB0.out.2).trans HA4.out.2.2.2
        have q1 := (blk_cell hb5 1).trans rfl
        have HN5 := Lib.hid N5
        have HLn := Lib.hid hln
        obtain ⟨e4, he4⟩ : ∃ e4, e4 = s4.1 := ⟨_, rfl⟩
        rw [← he4] at hPr
        have HE4 := Lib.hid he4
        clear hse hcs N5 T5 hb5 hr4 hs4 hln p0 p1 p2 p5 he4
        go_upto_region 14 with fail
        go_cut [85] (fun t wx => t = .bool false ∧ Below w5.heap.size w5 wx)
        case first =>
          rcases hPr with ⟨hr, hx2 | ⟨hx2, hx3⟩⟩ | ⟨hr, hx2, hx3, hx4⟩
          · have hr' : (r4 == 0) = false := beq_eq_false_iff_ne.2 hr
            have hx2' : ¬ ep0 < x2 := by omega
            go_quiet (fail)
            go_wp2
            go_meet
            case rel => exact ⟨rfl, pw_below_drewN (Below.refl _ _) _⟩
          · have hr' : (r4 == 0) = false := beq_eq_false_iff_ne.2 hr
            have hx3' : ¬ x2 ≤ 1048576 := by omega
            go_quiet (fail)
            go_wp2
            go_meet
            case rel => exact ⟨rfl, pw_below_drewN (Below.refl _ _) _⟩
          · subst hr
            subst hx4
            go_quiet ((go_at_call 16; exact Calls.quiet_of_same ((epoch_ns (HN5.out.below (pw_below_drewN (Below.refl _ _) _))).mono (by rintro e w' ⟨rfl, rfl⟩; exact ⟨by rw [← HE4.out], rfl⟩))))
            go_wp2
            go_meet
            case rel => exact ⟨rfl, pw_below_drewN (Below.refl _ _) _⟩
        case rest =>
          obtain ⟨rfl, hB⟩ := hcut
          have HB := Lib.hid hB
          clear hB
          go_wp2_with fail
          go_roundw
          case rel => exact ⟨k + 1, n4, s4, by omega, by omega, by go_num, HN5.out.below HB.out, by have := HLn.out; have := HLen.out; omega⟩
          case measure => simp [intOf]; omega
      · have hwr := write_ns HN4.out x2 x3 Ai ci x6 (Kd.C_below HCx.out HN4.out.all) HX6.out.2.2.2 HX6.out.1 HX6.out.2.1 (by have := HLen.out; omega)
        rw [← HXl.out] at hwr
        go_wp2_with fail
        refine hwr.mono ?_
        rintro e w5 ⟨n4, rfl, N5, T5⟩
        have hpu := sealed_pure s x2 x3 x6
        have hse := writeF_epoch s x2 x3 x6
        have hln := writeF_len s x2 x3 x6
        obtain ⟨r4, hr4⟩ : ∃ r4, r4 = (writeF s x2 x3 x6).1 := ⟨_, rfl⟩
        obtain ⟨s4, hs4⟩ : ∃ s4, s4 = (writeF s x2 x3 x6).2 := ⟨_, rfl⟩
        rw [← hs4] at N5 hln hse hpu
        rw [← hr4] at hpu ⊢
        have hb5 := (T5.keep b0 (Array.getElem?_eq_some_iff.1 HA4.out.2.2.2).1 HB0.out.2).trans HA4.out.2.2.2
        have ha5 := (T5.keep ba (Array.getElem?_eq_some_iff.1 HA4.out.1).1 HA4.out.2.1).trans HA4.out.1
        have hC5 := foot_step HA4.out.2.2.1 T5
        have q2 := (blk_cell hb5 2).trans rfl
        have hre := read_ns N5 x3 HX6.out.2.2.1
        have HN5 := Lib.hid N5
        have H5 := Lib.hid (And.intro hb5 (And.intro ha5 hC5))
        have HPu := Lib.hid (And.intro hpu (And.intro hse hln))
        clear hwr N5 T5 hb5 ha5 hC5 hr4 hs4 hpu hse hln p0 p1 p2 p5
        go_wp2_with fail
        refine hre.mono ?_
        rintro e w6 ⟨⟨ya, ye, yb, yA, yc⟩, rfl, hy, hOy, B6⟩
        obtain ⟨yl, hyl⟩ : ∃ yl, yl = yb.length := ⟨_, rfl⟩
        obtain ⟨fb, hfb⟩ : ∃ fb, fb = (readF s4.2.1 x3).1 := ⟨_, rfl⟩
        simp only [agg4]
        rw [← hyl, ← hfb]
        have BC := (Below.refl w6.heap.size w6).alloc (Nat.le_refl _) (.cells #[.int .i64 ya, .int .i64 ye, .slice yA yl yc] 34)
        have B56 := below_step B6 BC
        have hb6 := (B56.block b0 (Array.getElem?_eq_some_iff.1 H5.out.1).1).trans H5.out.1
        have ha6 := (B56.block ba (Array.getElem?_eq_some_iff.1 H5.out.2.1).1).trans H5.out.2.1
        have hCz := Kd.C_below H5.out.2.2 B56
        obtain ⟨_, _, hCy⟩ := Kd.R_reads' (OwnB.below hOy BC)
        simp only at hCy
        rw [← hyl] at hCy
        have N6 := HN5.out.below B56
        have hCx := Kd.C_below HCx.out N6.all
        rw [← HXl.out] at hCx
        have hep := epoch_ns N6
        rw [HPu.out.2.1, ← HEp.out] at hep
        have q1 := (blk_cell hb6 1).trans rfl
        have q5 := (blk_cell hb6 5).trans rfl
        have a1 := (blk_cell ha6 1).trans rfl
        have a2 := (blk_cell ha6 2).trans rfl
        obtain ⟨Sx, hSx⟩ : ∃ S, S = strOfNums x6 := ⟨_, rfl⟩
        obtain ⟨Sy, hSy⟩ : ∃ S, S = strOfNums yb := ⟨_, rfl⟩
        obtain ⟨Sz, hSz⟩ : ∃ S, S = strOfNums zb := ⟨_, rfl⟩
        have s1 := Kd.C_string (c := ci) Try.underlying23 Try.underlying5 Try.underlying9 hCx
        have s2 := Kd.C_string (c := yc) Try.underlying23 Try.underlying5 Try.underlying9 hCy
        have s3 := Kd.C_string (c := zc) Try.underlying23 Try.underlying5 Try.underlying9 hCz
        rw [← hSx] at s1
        rw [← hSy] at s2
        rw [← hSz] at s3
        obtain ⟨hz, hzl, hfa⟩ := HZ.out
        have hz' : (za, ze, zb) = (readF s.2.1 x3).2 := hz
        have hy' : (ya, ye, yb) = (readF s4.2.1 x3).2 := hy
        have hP : (r4 ≠ 0 ∧ fb = fa ∧ ye = ze ∧ Sy = Sz) ∨ (r4 = 0 ∧ ep0 ≤ x2 ∧ fb = 0 ∧ ye = x2 ∧ Sy = Sx ∧ (fa ≠ 0 ∨ ze < x2 ∨ (ze = x2 ∧ Sz = Sx))) := by
          rw [HEp.out]
          rcases HPu.out.1 with ⟨h1, h2⟩ | ⟨h1, h2, h3, h4⟩
          · have e := hy'.trans ((congrArg (fun t => t.2) h2).trans hz'.symm)
            refine .inl ⟨h1, by rw [hfb, hfa, h2], congrArg (fun t : B3 => t.2.1) e, ?_⟩
            rw [hSy, hSz]; exact congrArg (fun t : B3 => strOfNums t.2.2) e
          · have e := hy'.trans (congrArg (fun t => t.2) h3)
            refine .inr ⟨h1, h2, by rw [hfb, h3], congrArg (fun t : B3 => t.2.1) e, ?_, ?_⟩
            · rw [hSy, hSx]; exact congrArg (fun t : B3 => strOfNums t.2.2) e
            · rw [hfa]
              rcases h4 with h4 | h4 | h4
              · exact .inl h4
              · rw [← hz'] at h4; exact .inr (.inl h4)
              · have e2 := hz'.trans h4
                refine .inr (.inr ⟨congrArg (fun t : B3 => t.2.1) e2, ?_⟩)
                rw [hSz, hSx]; exact congrArg (fun t : B3 => strOfNums t.2.2) e2
        have HN6 := Lib.hid N6
        clear hre hy hOy B6 BC B56 hb6 ha6 hCz hCy N6 hCx hz hzl hfa hz' hy' hSx hSy hSz hyl hfb q2
        rcases hP with ⟨hr, rfl, rfl, rfl⟩ | ⟨hr, hle, rfl, rfl, rfl, hP | hP | ⟨rfl, rfl⟩⟩
        · have hr' : (r4 == 0) = false := beq_eq_false_iff_ne.2 hr
          by_cases hf0 : fb = 0
          · subst hf0
            go_wp2_with fail
            refine hep.mono ?_
            rintro e w7 ⟨rfl, rfl⟩
            clear hep
            go_wp2_with fail
            go_roundw
            case rel => exact ⟨k + 1, n4, s4, by omega, by omega, by go_num, HN6.out, by have := HPu.out.2.2; have := HLen.out; omega⟩
            case measure => simp [intOf]; omega
          · have hf' : (fb == 0) = false := beq_eq_false_iff_ne.2 hf0
            go_wp2_with fail
            refine hep.mono ?_
            rintro e w7 ⟨rfl, rfl⟩
            clear hep
            go_wp2_with fail
            go_roundw
            case rel => exact ⟨k + 1, n4, s4, by omega, by omega, by go_num, HN6.out, by have := HPu.out.2.2; have := HLen.out; omega⟩
            case measure => simp [intOf]; omega
        · have hf' : (fa == 0) = false := beq_eq_false_iff_ne.2 hP
          subst hr
          have hle' : ¬ ye < ep0 := by omega
          go_wp2_with fail
          refine hep.mono ?_
          rintro e w7 ⟨rfl, rfl⟩
          clear hep
          go_wp2_with fail
          go_roundw
          case rel => exact ⟨k + 1, n4, s4, by omega, by omega, by go_num, HN6.out, by have := HPu.out.2.2; have := HLen.out; omega⟩
          case measure => simp [intOf]; omega
        · subst hr
          have hle' : ¬ ye < ep0 := by omega
          have hn1 : ¬ ye < ze := by omega
          have hn2 : ¬ ye = ze := by omega
          by_cases hf0 : fa = 0
          · subst hf0
            go_wp2_with fail
            refine hep.mono ?_
            rintro e w7 ⟨rfl, rfl⟩
            clear hep
            go_wp2_with fail
            go_roundw
            case rel => exact ⟨k + 1, n4, s4, by omega, by omega, by go_num, HN6.out, by have := HPu.out.2.2; have := HLen.out; omega⟩
            case measure => simp [intOf]; omega
          · have hf' : (fa == 0) = false := beq_eq_false_iff_ne.2 hf0
            go_wp2_with fail
            refine hep.mono ?_
            rintro e w7 ⟨rfl, rfl⟩
            clear hep
            go_wp2_with fail
            go_roundw
            case rel => exact ⟨k + 1, n4, s4, by omega, by omega, by go_num, HN6.out, by have := HPu.out.2.2; have := HLen.out; omega⟩
            case measure => simp [intOf]; omega
        · subst hr
          have hle' : ¬ ze < ep0 := by omega
          by_cases hf0 : fa = 0
          · subst hf0
            go_wp2_with fail
            refine hep.mono ?_
            rintro e w7 ⟨rfl, rfl⟩
            clear hep
            go_wp2_with fail
            go_roundw
            case rel => exact ⟨k + 1, n4, s4, by omega, by omega, by go_num, HN6.out, by have := HPu.out.2.2; have := HLen.out; omega⟩
            case measure => simp [intOf]; omega
          · have hf' : (fa == 0) = false := beq_eq_false_iff_ne.2 hf0
            go_wp2_with fail
            refine hep.mono ?_
            rintro e w7 ⟨rfl, rfl⟩
            clear hep
            go_wp2_with fail
            go_roundw
            case rel => exact ⟨k + 1, n4, s4, by omega, by omega, by go_num, HN6.out, by have := HPu.out.2.2; have := HLen.out; omega⟩
            case measure => simp [intOf]; omega
    · have HN := Lib.hid N
      have hcond : (ll : Int) ≤ (k : Int) ∨ (k : Int) < (ll : Int) ∧ 80 ≤ (k : Int) := by omega
      clear N hlen hlt
      rcases hcond with hcond | ⟨hcond, hcond2⟩
      all_goals
        go_wp2_with fail
        go_ret
        exact ⟨rfl, HN.out.all⟩
end Go.Proofs.Ytdfpcldoakbehaa.Slot
