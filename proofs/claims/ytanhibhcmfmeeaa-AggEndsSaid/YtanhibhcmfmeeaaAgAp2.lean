import Derived.Test.YtanhibhcmfmeeaaAgAp
/- The walk of Apply where the table takes the value. -/
namespace Go.Proofs.Ytanhibhcmfmeeaa.Ag
open Go.RowKit Go.Proofs.YtanhibhcmfmeeaaW.PrintWords Go.Proofs.YtanhibhcmfmeeaaW.PrintMore Go.Proofs.Ytanhibhcmfmeeaa.Cut Go.Proofs.Ytanhibhcmfmeeaa.Fr Go.Proofs.Ytanhibhcmfmeeaa.SlK Go.Proofs.Ytanhibhcmfmeeaa.Ex
theorem at_C5 {w : World} {A : Option Addr} {n : Nat} {l : List T5} (h : K5.C w A n l) (i : Nat) (hi : i < n) : ∃ ad x, A = some ad ∧ l[i]? = some x ∧ w.cell? (ad.add (i * 5)) = some (.int .i64 x.1) ∧ w.cell? ⟨(ad.add (i * 5)).block, (ad.add (i * 5)).off + 1, none⟩ = some (.int .i64 x.2.1) ∧
    w.cell? ⟨(ad.add (i * 5)).block, (ad.add (i * 5)).off + 2, none⟩ = some (.int .i64 x.2.2.1) ∧ w.cell? ⟨(ad.add (i * 5)).block, (ad.add (i * 5)).off + 3, none⟩ = some (.int .i64 x.2.2.2.1) ∧ w.cell? ⟨(ad.add (i * 5)).block, (ad.add (i * 5)).off + 4, none⟩ = some (.bool x.2.2.2.2) := by
  obtain ⟨hl, _, h⟩ := h
  obtain ⟨ad, hA, hc⟩ := h (by omega)
  have hil : i < l.length := by omega
  obtain ⟨cs, _, hk, hat⟩ := hc i (l[i]) (List.getElem?_eq_getElem hil)
  have e1 : K5.sz = 5 := rfl
  rw [e1] at hat
  obtain ⟨_, _, rfl, rfl, ⟨_, _, rfl, rfl, ⟨_, _, rfl, rfl, ⟨_, _, rfl, rfl, rfl⟩⟩⟩⟩ := hk
  refine ⟨ad, l[i], hA, List.getElem?_eq_getElem hil, hat 0 _ rfl, ?_, ?_, ?_, ?_⟩
  · rw [← add_field _ _ 1 (by omega)]; exact hat 1 _ rfl
  · rw [← add_field _ _ 2 (by omega)]; exact hat 2 _ rfl
  · rw [← add_field _ _ 3 (by omega)]; exact hat 3 _ rfl
  · rw [← add_field _ _ 4 (by omega)]; exact hat 4 _ rfl
def lastFrom (chs : List T5) : Int := (chs.getLast?.map (·.2.1)).getD 0
def resA (kind key rn time er : Int) (v : Value) (chs : List T5) : Value :=
  if er = 0 then .tuple #[recV key rn (if kind = 6 then time else lastFrom chs), v, .int .i64 0] else .tuple #[recV 0 0 0, .slice none 0 0, .int .i64 er]
/-- What the table's part tells: the changes, an error, and what it made of the world. -/
def PutQ (V : World) (Ft : Nat → Prop) (kind : Int) (R : World → Int → List T5 → World → Prop) (e : Ending) (w' : World) : Prop :=
  ∃ v er chs Ft', e = .returned (.tuple #[v, .int .i64 er]) ∧ Row5 w' V.heap.size v chs ∧ (er = 0 → kind ≠ 6 → chs ≠ []) ∧ Mv V w' Ft Ft' ∧ R V er chs w'
/-- What Apply leaves: behind the table's part two boxes alone are written. -/
def ApplyP (w : World) (Ft : Nat → Prop) (kind key rn time : Int) (R : World → Int → List T5 → World → Prop) (e : Ending) (w' : World) : Prop :=
  ∃ V w1 v er chs Ft', Below w.heap.size w V ∧ w.heap.size + 2 ≤ V.heap.size ∧ Row5 w1 V.heap.size v chs ∧ Mv V w1 Ft Ft' ∧ R V er chs w1 ∧ Mv w1 w' (fun k => k = w.heap.size ∨ k = w.heap.size + 1) (fun _ => False) ∧ e = .returned (resA kind key rn time er v chs)
theorem mv2_refl (w : World) (F : Nat → Prop) : Mv w w F (fun _ => False) := ⟨rfl, rfl, rfl, Nat.le_refl _, fun _ _ _ => rfl, fun _ h => h.elim⟩
theorem mv2_set {w W : World} {q1 q2 : Nat} (h : Mv w W (fun k => k = q1 ∨ k = q2) (fun _ => False)) {p : Addr} (hp : p.block = q1 ∨ p.block = q2) (u : Value) : Mv w (W.setCell p u) (fun k => k = q1 ∨ k = q2) (fun _ => False) := Kv.mv_set h (.inl hp) u
set_option maxHeartbeats 8000000 in
theorem apply_put {w0 w : World} {a : Nat} {kind n : Int} {x : Ex} {tt : TypeId} {p : Addr} (h : AgV w0 w a kind n x (.iface tt (.pointer (some p)))) (key val time g rn : Int) (ht : mayT time = true)
    (hg : ∀ W, Below w.heap.size w W → Calls Try.prog 24 #[.pointer (some ⟨a, 0, none⟩), recV key val time] W fun e w' => e = .returned (.int .i64 g) ∧ Below W.heap.size W w') (he : evalF ⟨key, val, time, g⟩ x = (rn, 0))
    (Ft : Nat → Prop) (hFt : ∀ k, Ft k → k < w.heap.size ∧ k ≠ a) (R : World → Int → List T5 → World → Prop)
    (hput : ∀ V, Below w.heap.size w V → Calls Try.prog 25 #[.pointer (some ⟨a, 0, none⟩), recV key val time, .int .i64 rn] V (PutQ V Ft kind R)) :
    Calls Try.prog 12 #[.pointer (some ⟨a, 0, none⟩), recV key val time] w (ApplyP w Ft kind key rn time R) := by
  unfold recV at hg hput ⊢
  obtain ⟨W, hW, hB, hs, h1, h2⟩ := two_boxes w key val time
  have hAgW := h.below hB
  obtain ⟨kA, kc, c0, c2, c3, c4, c5, c6, hx⟩ := hAgW.cells
  have hm := mayT_calls time W
  rw [ht] at hm
  have d0 : W.cell? ⟨w.heap.size, 0, none⟩ = some (.int .i64 key) := (blk_cell h1 0).trans rfl
  have d1 : W.cell? ⟨w.heap.size, 1, none⟩ = some (.int .i64 val) := (blk_cell h1 1).trans rfl
  have d2 : W.cell? ⟨w.heap.size, 2, none⟩ = some (.int .i64 time) := (blk_cell h1 2).trans rfl
  have hgd := hg W.drew (below_drew hB)
  have hev := fun V (hV : Below W.drew.heap.size W.drew V) => eval_calls ⟨key, val, time, g⟩ x _ V (hx.below (below_then (below_drew (Below.refl W.heap.size W)) (Nat.le_refl _) hV))
  rw [he] at hev
  simp only at hev
  have HW := Lib.hid hW; have HA := Lib.hid hAgW
  have H1 := Lib.hid h1; have H2 := Lib.hid h2; have HB := Lib.hid hB; have HE := Lib.hid hev; have HP := Lib.hid hput; have HF := Lib.hid hFt
  have hal : a < w.heap.size := h.lt
  clear h hW hB h1 h2 ht c0 c5 hev hg hx hAgW hput hFt he
  go_enter Try.func12, Try.ntmps12
  go_upto_region 1 with fail
  rw [← HW.out]
  go_upto_region 5 with ((with_reducible refine hm.mono ?_); rintro e w1 ⟨rfl, rfl⟩)
  rename World => W
  go_cut [7, 8] (fun u7 u8 wx => u7 = .int .i64 rn ∧ u8 = .int .i64 0 ∧ Below W.heap.size W wx)
  case first =>
    go_region_held3 (fun V => V.cell? ⟨a, 2, none⟩ = some (.int .i64 x.op) ∧ V.cell? ⟨a, 3, none⟩ = some (.int .i64 x.n) ∧ V.cell? ⟨a, 4, none⟩ = some (.slice kA x.kids.length kc) ∧ V.cell? ⟨w.heap.size, 0, none⟩ = some (.int .i64 key) ∧ V.cell? ⟨w.heap.size, 1, none⟩ = some (.int .i64 val) ∧ V.cell? ⟨w.heap.size, 2, none⟩ = some (.int .i64 time)) (go_keep)
      (first
      | (go_at_call 24; (with_reducible refine hgd.mono ?_); rintro e w4 ⟨rfl, hB4⟩; have HB4 := Lib.hid hB4; have k1 := keepB hB4 c2; have k2 := keepB hB4 c3; have k3 := keepB hB4 c4; have k4 := keepB hB4 d0; have k5 := keepB hB4 d1; have k6 := keepB hB4 d2; clear hB4)
      | (go_at_call 23; (with_reducible refine (HE.out _ HB4.out).mono ?_); rintro e w5 ⟨rfl, hB5⟩; have HB5 := Lib.hid hB5; have k1 := keepB hB5 k1; have k2 := keepB hB5 k2; have k3 := keepB hB5 k3; have k4 := keepB hB5 k4; have k5 := keepB hB5 k5; have k6 := keepB hB5 k6; clear hB5))
    all_goals
      go_wp2_with fail
      go_meet
      case rel => exact ⟨rfl, rfl, below_then (below_then (below_drew (Below.refl W.heap.size W)) (Nat.le_refl _) HB4.out) HB4.out.size HB5.out⟩
  case rest =>
    obtain ⟨rfl, rfl, hBx⟩ := hcut
    rename World => wx
    have h1x := (hBx.block w.heap.size (by omega)).trans H1.out
    have h2x := (hBx.block (w.heap.size + 1) (by omega)).trans H2.out
    have hBw := below_then HB.out HB.out.size hBx
    have e0 : wx.cell? ⟨w.heap.size, 0, none⟩ = some (.int .i64 key) := (blk_cell h1x 0).trans rfl
    have e1 : wx.cell? ⟨w.heap.size, 1, none⟩ = some (.int .i64 val) := (blk_cell h1x 1).trans rfl
    have e2 : wx.cell? ⟨w.heap.size, 2, none⟩ = some (.int .i64 time) := (blk_cell h1x 2).trans rfl
    have hcall := HP.out wx hBw
    have hAx := HA.out.below hBx
    have hsx : w.heap.size + 2 ≤ wx.heap.size := by have := hBx.size; omega
    have HX := Lib.hid (And.intro h1x (And.intro h2x (And.intro hBw hAx)))
    clear h1x h2x hBw hm hgd c2 c3 c4 c6 d0 d1 d2 HW HE H2 HB HP HA H1 hBx hAx
    go_wp2_with fail
    refine hcall.mono ?_
    rintro e w1 ⟨v, er, chs, Ft', rfl, hR5, hne, hM, hR⟩
    have n1 : ¬ Ft w.heap.size := fun e => by have := (HF.out _ e).1; omega
    have n2 : ¬ Ft (w.heap.size + 1) := fun e => by have := (HF.out _ e).1; omega
    have g1 := (hM.keep w.heap.size (by omega) n1).trans HX.out.1
    have g2 := (hM.keep (w.heap.size + 1) (by omega) n2).trans HX.out.2.1
    have k0 : w1.cell? ⟨a, 0, none⟩ = some (.int .i64 kind) := by
      obtain ⟨fA, fn, fc, kA, kc, hr, _⟩ := HX.out.2.2.2.row
      exact (blk_cell ((hM.keep a (by omega) (fun e => (HF.out _ e).2 rfl)).trans hr) 0).trans rfl
    have f1 : w1.cell? ⟨w.heap.size, 0, none⟩ = some (.int .i64 key) := (blk_cell g1 0).trans rfl
    have f1' : w1.cell? ⟨w.heap.size, 1, none⟩ = some (.int .i64 val) := (blk_cell g1 1).trans rfl
    have f1'' : w1.cell? ⟨w.heap.size, 2, none⟩ = some (.int .i64 time) := (blk_cell g1 2).trans rfl
    have u1 := blk_frozen g1 1
    have u2 := blk_frozen g1 2
    have z0 : w1.cell? ⟨w.heap.size + 1, 0, none⟩ = some (.int .i64 0) := (blk_cell g2 0).trans rfl
    have z1 : w1.cell? ⟨w.heap.size + 1, 1, none⟩ = some (.int .i64 0) := (blk_cell g2 1).trans rfl
    have z2 : w1.cell? ⟨w.heap.size + 1, 2, none⟩ = some (.int .i64 0) := (blk_cell g2 2).trans rfl
    have y0 := blk_frozen g2 0
    have y1 := blk_frozen g2 1
    have y2 := blk_frozen g2 2
    have HG := Lib.hid (And.intro g1 g2)
    obtain ⟨A, c, rfl, hlc, hC⟩ := Kd.R_reads hR5
    have HR := Lib.hid (show ∀ w', Mv w1 w' (fun k => k = w.heap.size ∨ k = w.heap.size + 1) (fun _ => False) → ApplyP w Ft kind key rn time R (.returned (resA kind key rn time er (.slice A chs.length c) chs)) w' from
      fun w' h' => ⟨wx, w1, _, er, chs, Ft', HX.out.2.2.1, hsx, hR5, hM, hR, h', rfl⟩)
    have HNE := Lib.hid hne; have HC := Lib.hid hC; have HOW := Lib.hid (own_row hR5)
    clear hcall e0 e1 e2 hR5 hM hR g1 g2 n1 n2 HX HF hne hC
    have hqq : w.heap.size ≠ w.heap.size + 1 := by omega
    by_cases her : er = 0
    · subst her
      by_cases hk : kind = 6
      · subst hk
        have hres : resA 6 key rn time 0 (.slice A chs.length c) chs = .tuple #[recV key rn time, .slice A chs.length c, .int .i64 0] := rfl
        rw [hres] at HR
        clear hres HNE HC
        go_wp2_with fail
        refine bodyPost_ret (results_ctt rfl _ _ (w.heap.size + 1) 36 #[.int .i64 key, .int .i64 rn, .int .i64 time] (0, 0) _ rfl ?hp Try.underlying36 rfl (by kernel_rfl)) rfl ?_
        case hp =>
          exact blk_put (blk_put (blk_put ((Below.heap_setCell _ _ _ _ (by simp)).trans HG.out.2) 0 _ rfl) 1 _ rfl) 2 _ rfl
        · refine HR.out _ ?_
          repeat (with_reducible first | exact mv2_refl _ _ | refine mv2_set ?_ (.inr rfl) _ | refine mv2_set ?_ (.inl rfl) _)
      · have hpos : 0 < chs.length := List.length_pos_iff.2 (HNE.out rfl hk)
        obtain ⟨ad, y, rfl, hy, a0, a1, _⟩ := at_C5 HC.out (chs.length - 1) (by omega)
        have hlast : lastFrom chs = y.2.1 := by
          unfold lastFrom
          rw [List.getLast?_eq_getElem?, hy]; rfl
        have hres : resA kind key rn time 0 (.slice (some ad) chs.length c) chs = .tuple #[recV key rn y.2.1, .slice (some ad) chs.length c, .int .i64 0] := by
          unfold resA
          rw [if_pos rfl, if_neg hk, hlast]
        rw [hres] at HR
        have hkb : (kind == 6) = false := beq_eq_false_iff_ne.2 hk
        have hl1 : chs.length ≤ 9223372036854775807 := HC.out.2.1
        have i1 : wrap64 ((chs.length : Int) - 1) = (chs.length : Int) - 1 := by unfold wrap64; omega
        have i2 : ((chs.length : Int) - 1).toNat = chs.length - 1 := by omega
        have i3 : (0 : Int) ≤ (chs.length : Int) - 1 := by omega
        have hne1 : (ad.add ((chs.length - 1) * 5)).block ≠ w.heap.size ∧ (ad.add ((chs.length - 1) * 5)).block ≠ w.heap.size + 1 := by
          obtain ⟨g2, hg2, hg3, _⟩ := HOW.out hpos
          obtain rfl := Option.some.inj hg2
          rw [add_plain]
          exact ⟨by simp only; omega, by simp only; omega⟩
        obtain ⟨o1, o2⟩ := hne1
        clear hres HNE HC hlast hy hpos HOW
        go_wp2_with fail
        refine bodyPost_ret (results_ctt rfl _ _ (w.heap.size + 1) 36 #[.int .i64 key, .int .i64 rn, .int .i64 y.2.1] (0, 0) _ rfl ?hp Try.underlying36 rfl (by kernel_rfl)) rfl ?_
        case hp =>
          exact blk_put (blk_put (blk_put ((Below.heap_setCell _ _ _ _ (by simp)).trans ((Below.heap_setCell _ _ _ _ (by simp)).trans HG.out.2)) 0 _ rfl) 1 _ rfl) 2 _ rfl
        · refine HR.out _ ?_
          repeat (with_reducible first | exact mv2_refl _ _ | refine mv2_set ?_ (.inr rfl) _ | refine mv2_set ?_ (.inl rfl) _)
    · have hb1 : (er == 0) = false := beq_eq_false_iff_ne.2 her
      have hres : resA kind key rn time er (.slice A chs.length c) chs = .tuple #[recV 0 0 0, .slice none 0 0, .int .i64 er] := if_neg her
      rw [hres] at HR
      clear hres HNE HC
      go_wp2_with fail
      refine bodyPost_ret (results_ctt rfl _ _ (w.heap.size + 1) 36 #[.int .i64 0, .int .i64 0, .int .i64 0] (0, 0) _ rfl ?hp Try.underlying36 rfl (by kernel_rfl)) rfl ?_
      case hp =>
        repeat (with_reducible first | exact HG.out.2 | refine blk_drewN ?_ _ | refine blk_drew ?_ | refine blk_put (cs := #[.int .i64 0, .int .i64 0, .int .i64 0]) ?_ _ _ rfl)
      · refine HR.out _ ?_
        repeat (with_reducible first | exact mv2_refl _ _ | refine mv2_set ?_ (.inr rfl) _)
end Go.Proofs.Ytanhibhcmfmeeaa.Ag
