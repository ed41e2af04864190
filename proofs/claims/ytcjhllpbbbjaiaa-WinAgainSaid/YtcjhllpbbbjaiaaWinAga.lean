import Derived.Test.YtcjhllpbbbjaiaaWinEnd
import Derived.Deep.RegionHeld3
/- What changes tell makes the same store. -/
namespace Go.Proofs.Ytcjhllpbbbjaiaa.Win
open Go.RowKit Go.Maps Go.Proofs.YtcjhllpbbbjaiaaW.PrintWords Go.Proofs.YtcjhllpbbbjaiaaW.PrintMore Go.Proofs.Ytcjhllpbbbjaiaa.Cut Go.Proofs.Ytcjhllpbbbjaiaa.PWinAgain
attribute [local go_sem high] eqA30
theorem putR_some {room size : Int} {m m' : St} {key time val : Int} (h : putR room size m key time val = some m') : 0 ≤ startF size time ∧ (look m (startF size time, key) = none → (m.length : Int) < room) ∧ m' = put (startF size time, key) val m := by
  unfold putR at h
  by_cases hc : startF size time < 0 ∨ look m (startF size time, key) = none ∧ room ≤ m.length
  · rw [if_pos hc] at h; cases h
  · rw [if_neg hc] at h
    refine ⟨by omega, fun hn => ?_, (Option.some.inj h).symm⟩
    have : ¬ room ≤ m.length := fun h' => hc (.inr ⟨hn, h'⟩)
    omega
theorem rest_eq {size before : Int} (m : St) : restM size before m = m.drop (outT size before m).length := by
  unfold restM outT
  rw [List.length_map]
  conv => rhs; rw [← List.takeWhile_append_dropWhile (p := endedB size before) (l := m)]
  rw [List.drop_append_of_le_length (Nat.le_of_eq (by rw [List.takeWhile_append_dropWhile])), List.takeWhile_append_dropWhile, List.drop_length, List.nil_append]
theorem cell_step {w W : World} {a : Addr} {v : Value} {row : Option Nat} (h : w.grownBy W row) (c : w.cell? a = some v) (hne : some a.block ≠ row) : W.cell? a = some v := (World.cell?_of_block (h.block _ (cell_lt c) hne)).trans c
def Two (w : World) (s b t d : Nat) (n : Int) (m m' : St) : Prop := Own w s 1024 n b m ∧ Own w t 1024 n d m'
theorem Two.kept {w w' : World} {s b t d : Nat} {n : Int} {m m' : St} (h : Two w s b t d n m m') {row : Option Nat} (hg : w.grownBy w' row) (h1 : some s ≠ row) (h2 : some b ≠ row) (h3 : some t ≠ row) (h4 : some d ≠ row) : Two w' s b t d n m m' := ⟨h.1.kept hg h1 h2, h.2.kept hg h3 h4⟩
theorem Two.none {w w' : World} {s b t d : Nat} {n : Int} {m m' : St} (h : Two w s b t d n m m') (hg : w.grownBy w' Option.none) : Two w' s b t d n m m' := h.kept hg (by simp) (by simp) (by simp) (by simp)
theorem Two.set {w : World} {s b t d g : Nat} {n : Int} {m m' : St} (h : Two w s b t d n m m') (hn : s ≠ g ∧ b ≠ g ∧ t ≠ g ∧ d ≠ g) (j : Nat) (u : Value) : Two (w.setCell ⟨g, j, Option.none⟩ u) s b t d n m m' := ⟨h.1.setCell hn.1 hn.2.1 j u, h.2.setCell hn.2.2.1 hn.2.2.2 j u⟩
theorem below_set' {B g : Nat} {w W : World} (h : Below B w W) (hg : B ≤ g) (j : Nat) (u : Value) : Below B w (W.setCell ⟨g, j, Option.none⟩ u) := h.setCell hg _
set_option maxRecDepth 100000 in
set_option maxHeartbeats 8000000 in
theorem again_walk (size : Int) (h0 : 0 ≤ size) (h1 : size ≤ 65535) (A : Option Addr) (c : Nat) (l : List T9) (w : World) (hC : K9.C w A l.length l) (hW : ∀ x ∈ l, W9 x) :
    Calls Try.prog 6 #[.int .u16 size, .slice A l.length c] w fun e w' => e = .returned (.bool true) ∧ Below w.heap.size w w' := by
  have hsh := shown_calls w
  have HN := fun w => new_calls 1024 (1 + size) (by omega) w
  have hlm : l.length ≤ 9223372036854775807 := hC.2.1
  have HC := Lib.hid hC
  have HW := Lib.hid hW
  obtain ⟨n, hn⟩ : ∃ n, n = l.length := ⟨_, rfl⟩
  rw [← hn] at HC hlm ⊢
  have HL := Lib.hid hn
  clear hC hW hn
  go_enter Try.func6, Try.ntmps6
  go_wp2_with fail
  refine hsh.mono ?_
  rintro e w1 ⟨rfl, hB⟩
  have HB := Lib.hid hB
  clear hB hsh
  go_wp2_with fail
  refine (HN _).mono ?_
  rintro e w2 ⟨rfl, hO2, hB2⟩
  have HO2 := Lib.hid hO2; have HB2 := Lib.hid hB2
  clear hO2 hB2
  go_wp2_with fail
  refine (HN _).mono ?_
  rintro e w3 ⟨rfl, hO3, hB3⟩
  have hT : Two w3 (w1.heap.size + 1) w1.heap.size (w2.heap.size + 1) w2.heap.size (1 + size) [] [] := ⟨HO2.out.kept (grown_of_below hB3) (by simp) (by simp), hO3⟩
  have hbl : Below w.heap.size w w3 := below_then (below_then HB.out HB.out.size HB2.out) (Nat.le_trans HB.out.size HB2.out.size) hB3
  have hi : w.heap.size ≤ w1.heap.size ∧ w1.heap.size < w1.heap.size + 1 ∧ w1.heap.size + 1 < w2.heap.size ∧ w2.heap.size < w2.heap.size + 1 := ⟨HB.out.size, by omega, HO2.out.lt.1, by omega⟩
  have HT := Lib.hid hT; have HBl := Lib.hid hbl
  clear hO3 hB3 hT hbl HB HB2 HO2 HN
  generalize w1.heap.size + 1 = s at *
  generalize w1.heap.size = b at *
  generalize w2.heap.size + 1 = t at *
  generalize w2.heap.size = d at *
  have HI := Lib.hid hi
  clear hi
  go_wp2_with fail
  go_loopw [10] (fun i wr => ∃ (k : Nat) (m : St), k ≤ n ∧ i = .int .i64 k ∧ Two wr s b t d (1 + size) m m ∧ Below w.heap.size w wr) (fun i _ => n - (intOf i).toNat)
  case atStart => exact ⟨0, [], Nat.zero_le _, rfl, HT.out, HBl.out⟩
  case round =>
    obtain ⟨k, m, hk, rfl, hT, hB⟩ := hrel
    clear HT HBl
    by_cases hlt : k < n ∧ k < 200
    · obtain ⟨hlt1, hlt2⟩ := hlt
      have hlti : (k : Int) < (n : Int) := by omega
      have hlt2i : (k : Int) < 200 := by omega
      have hk0 : (0 : Int) ≤ (k : Int) := by omega
      obtain ⟨ad, x, rfl, hx, d0, d1, d2, d3⟩ := at_C9 (Kd.C_below HC.out hB) k hlt1
      have hwx := HW.out _ (List.mem_of_getElem? hx)
      obtain ⟨x1, x2, x3, x4, x5⟩ := x
      simp only at d0 d1 d2 d3
      have HT := Lib.hid hT; have HB := Lib.hid hB
      have hwk := hwx.key
      have hwv := hwx.val
      clear hx hwx hB
      by_cases hx1 : x1 = 1
      · subst hx1
        have he := expire_calls hT.1 x3
        clear hT
        go_wp2_with (go_at_call 14; refine he.mono ?_; rintro e w4 ⟨v, rfl, hR, hO4, hg4⟩; obtain ⟨A1, c1, rfl, hc1, _⟩ := Kd.R_reads hR)
        have hi := HI.out
        have hOt := HT.out.2.kept hg4 (by simp; omega) (by simp; omega)
        have hb4 := HB.out.grown hg4 HB.out.size (fun j hj => by cases hj; omega)
        have hdb : d < wr.heap.size := HT.out.2.lt.2.1
        have hOut := Lib.hid (fun i => out_at (size := 1 + size) (before := x3) (m := m) (i := i))
        have hRe := rest_eq (size := 1 + size) (before := x3) m
        have hpm : (outT (1 + size) x3 m).length ≤ 1024 := by have h3 := out_len (1 + size) x3 m; have h4 := HT.out.1.fits; omega
        have HS := Lib.hid HT.out.2
        have H4 := Lib.hid (And.intro hO4 (And.intro hOt (And.intro hR hb4)))
        generalize hp : (outT (1 + size) x3 m).length = p at *
        have HP := Lib.hid hp; have HRe := Lib.hid hRe
        clear hp hRe he hR hO4 hg4 hOt hb4 HT HB d0 d1 d2 d3 hwk hwv hc1
        go_loopw [12] (fun i wx => ∃ j : Nat, j ≤ p ∧ i = .int .i64 j ∧ Own wx s 1024 (1 + size) b (restM (1 + size) x3 m) ∧ Own wx t 1024 (1 + size) d (m.drop j) ∧ K5.R 30 wx wr.heap.size (fun _ => True) (.slice A1 p c1) (outT (1 + size) x3 m) ∧ Below w.heap.size w wx) (fun i _ => p - (intOf i).toNat)
        case atStart => exact ⟨0, Nat.zero_le _, rfl, H4.out.1, by rw [List.drop_zero]; exact H4.out.2.1, H4.out.2.2.1, H4.out.2.2.2⟩
        case round =>
          clear H4
          obtain ⟨j, hj, rfl, hOs, hOt, hR, hB⟩ := hrel
          by_cases hjp : j < p
          · have hji : (j : Int) < (p : Int) := by omega
            have hj0 : (0 : Int) ≤ (j : Int) := by omega
            have hC5 := R_C hR
            rw [HP.out] at hC5
            obtain ⟨ad1, y, rfl, hy, a0, a1, a2, a3, a4⟩ := at_C5 hC5 j hjp
            obtain ⟨⟨⟨f, key⟩, val⟩, hx, hx2, hx3⟩ := hOut.out j hjp
            obtain rfl : y = goneT (1 + size) ((f, key), val) := by
              rw [hx2] at hy
              exact (Option.some.inj hy).symm
            simp only [goneT] at a0 a1 a2 a3 a4
            obtain ⟨q1, q2, q3, q4⟩ := HS.out.wf _ (List.mem_of_getElem? hx)
            have hlk : (look (m.drop j) (f, key)).isSome = true := by
              have h5 := look_at (hOt.sorted) (i := 0) (x := ((f, key), val)) (by rw [List.getElem?_drop]; exact hx)
              rw [h5]; rfl
            have hdo := do_del hOt key f q1.2 q1.1 q3 q4 hlk
            rw [del_head HS.out.sorted hx] at hdo
            have H5 := Lib.hid (And.intro hOs (And.intro hR hB))
            clear hOs hOt hR hB hC5 hy hx hx2 q1 q2 q3 q4 hlk
            go_wp2_with (go_at_call 15; refine hdo.mono ?_; rintro e w5 ⟨rfl, hO5, hg5⟩)
            have hs5 := H5.out.1.kept hg5 (by simp; omega) (by simp; omega)
            have hr5 := R_grown_below H5.out.2.1 hg5 hdb
            have hb5 := H5.out.2.2.grown hg5 H5.out.2.2.size (fun j hj => by cases hj; omega)
            go_roundw
            case rel => exact ⟨j + 1, by omega, by go_num, hs5, hO5, hr5, hb5⟩
            case measure => simp [intOf]; omega
          · obtain rfl : j = p := by omega
            rw [← HRe.out] at hOt
            have H5 := Lib.hid (And.intro hOs (And.intro hOt hB))
            clear hOs hOt hR hB
            go_wp2
            go_roundw
            case rel => exact ⟨k + 1, _, by omega, by go_num, ⟨H5.out.1, H5.out.2.1⟩, H5.out.2.2⟩
            case measure => simp [intOf]; omega
      · have e1 : (x1 == 1) = false := beq_eq_false_iff_ne.2 hx1
        have hO1 : Own wr.drew s 1024 (1 + size) b m := hT.1.drewN 1
        have hT2 : Two (wr.alloc (.cells #[.int .i64 0, .int .i64 0, .int .i64 0, .int .i64 0, .bool false] 30)).drew s b t d (1 + size) m m := hT.none (grown_drew (World.grownBy_alloc _ _ _))
        have hT1 : Two wr.drew s b t d (1 + size) m m := hT.none (grown_drew (World.grownBy.refl _ _))
        have hB1 : Below w.heap.size w wr.drew := HB.out.drew
        have hB2 : Below w.heap.size w (wr.alloc (.cells #[.int .i64 0, .int .i64 0, .int .i64 0, .int .i64 0, .bool false] 30)).drew := (HB.out.alloc HB.out.size _).drew
        have hrow : (wr.alloc (.cells #[.int .i64 0, .int .i64 0, .int .i64 0, .int .i64 0, .bool false] 30)).drew.heap[wr.heap.size]? = some (.cells #[.int .i64 0, .int .i64 0, .int .i64 0, .int .i64 0, .bool false] 30 (0, 0)) := (MapKept.heap_alloc wr _).1
        have H1 := Lib.hid (And.intro (And.intro hT1 hB1) (And.intro hT2 (And.intro hB2 hrow)))
        have hgA := Lib.hid (show wr.grownBy wr.drew none from grown_drew (World.grownBy.refl _ _))
        have hgB := Lib.hid (show wr.grownBy (wr.alloc (.cells #[.int .i64 0, .int .i64 0, .int .i64 0, .int .i64 0, .bool false] 30)).drew none from grown_drew (World.grownBy_alloc _ _ _))
        have HG := Lib.hid (show (s ≠ wr.heap.size ∧ b ≠ wr.heap.size ∧ t ≠ wr.heap.size ∧ d ≠ wr.heap.size) ∧ w.heap.size ≤ wr.heap.size from by
          have o1 := hT.1.lt; have o2 := hT.2.lt; have o3 := HB.out.size
          exact ⟨⟨by omega, by omega, by omega, by omega⟩, o3⟩)
        have hb9 : (ad.add (k * 9)).block < wr.heap.size := cell_lt d0
        have hb9n : (ad.add (k * 9)).block ≠ wr.heap.size := by omega
        have hb9m : wr.heap.size ≠ (ad.add (k * 9)).block := by omega
        simp only at hwk hwv
        have hwk := Lib.hid hwk; have hwv := Lib.hid hwv
        clear hO1 hT2 hT1 hB1 hB2 hrow hT HT HB
        cases hpr : putR 1024 (1 + size) m x2 x3 x4 with
        | none =>
          have hputA := put_none H1.out.1.1.1 x2 x3 x4 hwk.out hpr
          have hputB := put_none H1.out.2.1.1 x2 x3 x4 hwk.out hpr
          simp only [zchg] at hputA hputB
          have HA := Lib.hid hputA; have HB := Lib.hid hputB
          clear hputA hputB hpr
          go_upto_region 16 with fail
          go_cut [13, 14] (fun _ u14 wx => ∃ x : Int, u14 = .int .i64 x ∧ x ≠ 0 ∧ Two wx s b t d (1 + size) m m ∧ Below w.heap.size w wx)
          case first =>
            go_region_held3 (fun W => W.cell? ⟨(ad.add (k * 9)).block, (ad.add (k * 9)).off + 1, none⟩ = some (.int .i64 x2) ∧ W.cell? ⟨(ad.add (k * 9)).block, (ad.add (k * 9)).off + 2, none⟩ = some (.int .i64 x3) ∧ W.cell? ⟨(ad.add (k * 9)).block, (ad.add (k * 9)).off + 3, none⟩ = some (.int .i64 x4)) (go_keep)
              (first
              | (go_at_call 10; (with_reducible refine HA.out.mono ?_); rintro e w4 ⟨x, rfl, hx, hg⟩; have HX := Lib.hid (And.intro hx (And.intro (H1.out.1.1.none hg) (H1.out.1.2.grown hg H1.out.1.2.size (fun j hj => by cases hj)))); have k1 := cell_step (hgA.out.trans hg) d1 (by simp); have k2 := cell_step (hgA.out.trans hg) d2 (by simp); have k3 := cell_step (hgA.out.trans hg) d3 (by simp); clear hx hg)
              | (go_at_call 10; (with_reducible refine HB.out.mono ?_); rintro e w4 ⟨x, rfl, hx, hg⟩; have k1 := cell_step (hgB.out.trans hg) d1 (by simp); have k2 := cell_step (hgB.out.trans hg) d2 (by simp); have k3 := cell_step (hgB.out.trans hg) d3 (by simp); have HX := Lib.hid (And.intro hx (And.intro (H1.out.2.1.none hg) (H1.out.2.2.1.grown hg H1.out.2.2.1.size (fun j hj => by cases hj)))); have hr4 := (hg.block _ (Array.getElem?_eq_some_iff.1 H1.out.2.2.2).1 (by simp)).trans H1.out.2.2.2; obtain ⟨z0, z1, z2, z3, z4, y0, y1, y2, y3, y4, ylt⟩ := zrow_facts hr4; clear hx hg hr4))
            all_goals
              go_wp2_with fail
              go_meet
              case rel =>
                refine ⟨x, rfl, HX.out.1, ?_, ?_⟩
                · repeat (with_reducible first | exact HX.out.2.1 | refine Two.none ?_ (World.grownBy_alloc _ _ _) | refine Two.set ?_ HG.out.1 _ _)
                · repeat (with_reducible first | exact HX.out.2.2 | refine Below.alloc ?_ HX.out.2.2.size _ | refine below_set' ?_ HG.out.2 _ _)
          case rest =>
            obtain ⟨x, rfl, hx, hT, hB⟩ := hcut
            have hxb : (x == 0) = false := beq_eq_false_iff_ne.2 hx
            have H2 := Lib.hid (And.intro hT hB)
            clear hT hB hx H1 HA HB d0 d1 d2 d3
            go_wp2
            go_roundw
            case rel => exact ⟨k + 1, m, by omega, by go_num, H2.out.1, H2.out.2⟩
            case measure => simp [intOf]; omega
        | some m' =>
          obtain ⟨p1, p2, p3⟩ := putR_some hpr
          have hputA := put_some H1.out.1.1.1 x2 x3 x4 hwk.out hwv.out hpr
          have hputB := put_some H1.out.2.1.1 x2 x3 x4 hwk.out hwv.out hpr
          have hfs := startF_idem (show 1 ≤ 1 + size by omega) p1
          have hfw := startF_w64 (time := x3) (show 1 ≤ 1 + size by omega)
          obtain ⟨f, hf⟩ : ∃ f, f = startF (1 + size) x3 := ⟨_, rfl⟩
          rw [← hf] at p1 p2 p3 hputA hputB hfs hfw
          simp only [chg] at hputA hputB
          have HA := Lib.hid hputA; have HB := Lib.hid hputB
          have HP := Lib.hid (And.intro p1 (And.intro p2 (And.intro p3 (And.intro hfs hfw))))
          have HNb := Lib.hid (show some (ad.add (k * 9)).block ≠ some b from by
            obtain ⟨ad', x', hA', _, c0, _⟩ := at_C9 HC.out k hlt1
            obtain rfl := Option.some.inj hA'
            have := cell_lt c0
            have := HI.out
            intro e; injection e with e; omega)
          clear hputA hputB hpr p1 p2 p3 hfs hfw hf
          go_upto_region 16 with fail
          go_cut [13, 14] (fun u13 u14 wx => ∃ g : Nat, u13 = .pointer (some ⟨g, 0, none⟩) ∧ u14 = .int .i64 0 ∧ wx.heap[g]? = some (.cells #[.int .i64 x2, .int .i64 f, .int .i64 (f + (1 + size)), .int .i64 x4, .bool false] 30 (0, 0)) ∧ Two wx s b t d (1 + size) m' m ∧ Below w.heap.size w wx)
          case first =>
            go_region_held3 (fun W => W.cell? ⟨(ad.add (k * 9)).block, (ad.add (k * 9)).off + 1, none⟩ = some (.int .i64 x2) ∧ W.cell? ⟨(ad.add (k * 9)).block, (ad.add (k * 9)).off + 2, none⟩ = some (.int .i64 x3) ∧ W.cell? ⟨(ad.add (k * 9)).block, (ad.add (k * 9)).off + 3, none⟩ = some (.int .i64 x4)) (go_keep)
              (first
              | (go_at_call 10; (with_reducible refine HA.out.mono ?_); rintro e w4 ⟨rfl, hx, hg⟩; have HX := Lib.hid (And.intro (show Two w4 s b t d (1 + size) m' m from ⟨hx, H1.out.1.1.2.kept hg (by have := HI.out; simp; omega) (by have := HI.out; simp; omega)⟩) (H1.out.1.2.grown hg H1.out.1.2.size (fun j hj => by cases hj; have := HI.out; omega))); have k1 := cell_step ((hgA.out.but _).trans hg) d1 HNb.out; have k2 := cell_step ((hgA.out.but _).trans hg) d2 HNb.out; have k3 := cell_step ((hgA.out.but _).trans hg) d3 HNb.out; clear hx hg)
              | (go_at_call 10; (with_reducible refine HB.out.mono ?_); rintro e w4 ⟨rfl, hx, hg⟩; have k1 := cell_step ((hgB.out.but _).trans hg) d1 HNb.out; have k2 := cell_step ((hgB.out.but _).trans hg) d2 HNb.out; have k3 := cell_step ((hgB.out.but _).trans hg) d3 HNb.out; have HX := Lib.hid (And.intro (And.intro (show Two w4 s b t d (1 + size) m' m from ⟨hx, H1.out.2.1.2.kept hg (by have := HI.out; simp; omega) (by have := HI.out; simp; omega)⟩) (H1.out.2.2.1.grown hg H1.out.2.2.1.size (fun j hj => by cases hj; have := HI.out; omega))) ((hg.block _ (Array.getElem?_eq_some_iff.1 H1.out.2.2.2).1 (by have := HG.out.1; simp; omega)).trans H1.out.2.2.2)); have hr4 := HX.out.2; obtain ⟨z0, z1, z2, z3, z4, y0, y1, y2, y3, y4, ylt⟩ := zrow_facts hr4; clear hx hg hr4))
            · go_wp2_with fail
              go_meet
              case rel => exact ⟨w4.heap.size, rfl, rfl, (MapKept.heap_alloc w4 _).1, HX.out.1.none (World.grownBy_alloc _ _ _), HX.out.2.alloc HX.out.2.size _⟩
            · go_wp2_with fail
              go_meet
              case rel =>
                refine ⟨wr.heap.size, rfl, rfl, ?_, ?_, ?_⟩
                · refine (blk_put (blk_put (blk_put (blk_put (blk_put HX.out.2 0 _ rfl) 1 _ rfl) 2 _ rfl) 3 _ rfl) 4 _ rfl).trans ?_
                  simp
                · repeat (with_reducible first | exact HX.out.1.1 | refine Two.set ?_ HG.out.1 _ _)
                · repeat (with_reducible first | exact HX.out.1.2 | refine below_set' ?_ HG.out.2 _ _)
          case rest =>
            obtain ⟨g, rfl, rfl, hrow, hT, hB⟩ := hcut
            have hdo := do_put hT.2 x2 f x4 hwk.out hwv.out HP.out.2.2.2.2 HP.out.1 HP.out.2.2.2.1 HP.out.2.1
            rw [← HP.out.2.2.1] at hdo
            have z0 := (blk_cell hrow 0).trans rfl
            have z1 := (blk_cell hrow 1).trans rfl
            have z2 := (blk_cell hrow 2).trans rfl
            have z3 := (blk_cell hrow 3).trans rfl
            have z4 := (blk_cell hrow 4).trans rfl
            have H2 := Lib.hid (And.intro hT hB)
            clear hT hB hrow H1 HA HB d0 d1 d2 d3
            go_wp2_with (go_at_call 15; refine hdo.mono ?_; rintro e w5 ⟨rfl, hO5, hg5⟩)
            have hs5 := H2.out.1.1.kept hg5 (by have := HI.out; simp; omega) (by have := HI.out; simp; omega)
            have hb5 := H2.out.2.grown hg5 H2.out.2.size (fun j hj => by cases hj; have := HI.out; omega)
            go_roundw
            case rel => exact ⟨k + 1, m', by omega, by go_num, ⟨hs5, hO5⟩, hb5⟩
            case measure => simp [intOf]; omega
    · have hls := list_calls hT.1
      have hml : m.length ≤ 1024 := by have := hT.1.fits; omega
      have hn1 : (listT (1 + size) m).length = m.length := List.length_map _
      have HT := Lib.hid hT; have HB := Lib.hid hB; have HN1 := Lib.hid hn1
      clear hT hB hn1
      by_cases hk1 : k < n
      all_goals
        try have hk2 : (200 : Int) ≤ (k : Int) := by omega
        try have hk3 : (n : Int) ≤ (k : Int) := by omega
        try have hk4 : (k : Int) < (n : Int) := by omega
        clear hlt
        go_wp2_with fail
        refine hls.mono ?_
        rintro e w4 ⟨v1, rfl, hR1, hB4⟩
        obtain ⟨A1, c1, rfl, hc1, _⟩ := Kd.R_reads hR1
        have hlt := list_calls (HT.out.2.kept (grown_of_below hB4) (by simp) (by simp))
        have HR1 := Lib.hid hR1; have HB4 := Lib.hid hB4; have HC1 := Lib.hid hc1
        clear hls hR1 hB4 hc1
        go_wp2_with fail
        refine hlt.mono ?_
        rintro e w5 ⟨v2, rfl, hR2, hB5⟩
        obtain ⟨A2, c2, rfl, hc2, hC2⟩ := Kd.R_reads hR2
        have hch := changes_calls (R_C (Kd.R_below HR1.out hB5)) HC1.out hC2 hc2 (by rw [HN1.out]; omega)
        rw [decide_eq_true rfl] at hch
        have HB5 := Lib.hid (below_then (below_then HB.out HB.out.size HB4.out) (Nat.le_trans HB.out.size HB4.out.size) hB5)
        clear hlt hR2 hB5 hc2 hC2
        go_wp2_with fail
        refine hch.mono ?_
        rintro e w6 ⟨rfl, q, rfl⟩
        go_wp2
        go_ret
        exact ⟨rfl, pw_below_drewN HB5.out q⟩
end Go.Proofs.Ytcjhllpbbbjaiaa.Win
