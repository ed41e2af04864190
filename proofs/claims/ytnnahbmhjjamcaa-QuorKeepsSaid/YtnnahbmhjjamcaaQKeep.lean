import Derived.Test.YtnnahbmhjjamcaaQKeepP
/- QuorKeeps: the walk. -/
namespace Go.Proofs.Ytnnahbmhjjamcaa.Quor
open Go.RowKit Go.Maps Go.Proofs.YtnnahbmhjjamcaaW.PrintWords Go.Proofs.YtnnahbmhjjamcaaW.PrintMore Go.Proofs.Ytnnahbmhjjamcaa.Cut
set_option maxRecDepth 100000 in
set_option maxHeartbeats 8000000 in
theorem keeps_walk (n : Int) (hn0 : 0 ≤ n) (hn1 : n ≤ 255) (cz : C4) (ls : List (List C3)) (A2 : Option Addr) (c2 : Nat) (bs : List Bool) (A3 : Option Addr) (c3 : Nat) (w : World) (hz : RdB w cz ∧ W64 cz.at_ ∧ cz.by_.length ≤ 140737488355328) (hC : (Kd.slice 28 KC).C w A2 ls.length ls) (hW : ∀ l ∈ ls, ∀ x ∈ l, W64 x.1 ∧ x.2.2.length ≤ 140737488355328) (hS : Kd.bool.C w A3 bs.length bs) :
    Calls Try.prog 4 #[.int .u8 n, encV cz, .slice A2 ls.length c2, .slice A3 bs.length c3] w fun e w' => e = .returned (.bool true) ∧ Below w.heap.size w w' := by
  obtain ⟨za, ze, zb, zA, zc⟩ := cz
  have hb0 := (Below.refl w.heap.size w).alloc (Nat.le_refl _) (.cells #[.int .i64 za, .int .i64 ze, .slice zA zb.length zc] 28)
  have hr0 := (MapKept.heap_alloc w (.cells #[.int .i64 za, .int .i64 ze, .slice zA zb.length zc] 28)).1
  have HB0 := Lib.hid hb0
  have HR0 := Lib.hid hr0
  have HC := Lib.hid hC
  have HW := Lib.hid hW
  have HS := Lib.hid hS
  have HZ := Lib.hid hz
  have hsh := shown_calls (w.alloc (.cells #[.int .i64 za, .int .i64 ze, .slice zA zb.length zc] 28))
  clear hC hW hS hz hb0 hr0
  simp only [encV]
  go_enter Try.func4, Try.ntmps4
  go_wp2_with fail
  refine hsh.mono ?_
  rintro e w1 ⟨rfl, hb1⟩
  have HR1 := Lib.hid (blk_grown HR0.out (grown_of_below hb1) (by simp))
  have HB1 := Lib.hid (below_then HB0.out HB0.out.size hb1)
  have HLT : RowKit.Hid (w.heap.size < w1.heap.size) := Lib.hid (Array.getElem?_eq_some_iff.1 HR1.out).1
  clear hsh hb1 HB0 HR0
  obtain ⟨g, hg⟩ : ∃ g, g = w.heap.size := ⟨_, rfl⟩
  rw [← hg] at HR1 HLT ⊢
  have HG := Lib.hid hg
  clear hg
  go_wp2_with fail
  obtain ⟨m, hm⟩ : ∃ m : Nat, 3 + 2 * (n % 3) = (m : Int) := ⟨(3 + 2 * (n % 3)).toNat, by omega⟩
  have hm3 : 3 ≤ m := by omega
  have hm7 : m ≤ 7 := by omega
  rw [hm]
  obtain ⟨need, hne⟩ : ∃ d : Nat, d = m / 2 + 1 := ⟨_, rfl⟩
  have hN := need_calls (m : Int) (by omega)
  rw [show needM (m : Int) = (need : Int) from by unfold needM; rw [if_neg (by omega)]; omega] at hN
  have HNE := Lib.hid hne
  clear hm hn0 hn1 hne
  obtain ⟨nl, hnl⟩ : ∃ d : Nat, d = ls.length := ⟨_, rfl⟩
  obtain ⟨nb, hnb⟩ : ∃ d : Nat, d = bs.length := ⟨_, rfl⟩
  rw [← hnl, ← hnb]
  rw [← hnl] at HC
  rw [← hnb] at HS
  clear hnl hnb
  go_loopw [11, 12] (fun v i wx => ∃ (k : Nat) (xss : List (List C4)), k ≤ m ∧ i = .int .i64 k ∧ KN.R 31 wx w1.heap.size (fun _ => True) v xss ∧ Nodes w1 (za, ze, zb) need k xss ∧ Below w1.heap.size w1 wx) (fun _ i _ => m - (intOf i).toNat)
  case atStart => exact ⟨0, [], Nat.zero_le _, rfl, Kd.R_nil _ _ _ _ _, ⟨rfl, by simp, by simp⟩, Below.refl _ _⟩
  case round =>
    obtain ⟨k, xss, hk, rfl, hR, hNo, hB⟩ := hrel
    have HX := Lib.hid (And.intro hR (And.intro hNo hB))
    clear hR hNo hB
    rename World => wx
    by_cases hkm : k < m
    · have hkmi : (k : Int) < (m : Int) := by omega
      have hk0 : (0 : Int) ≤ (k : Int) := by omega
      go_wp2_with fail
      go_loopw [13, 14] (fun v i wy => ∃ (t : Nat) (xs : List C4), t ≤ 20 ∧ i = .int .i64 t ∧ K4.R 28 wy wx.heap.size (fun _ => True) v xs ∧ xs.length ≤ t ∧ (∀ z ∈ xs, NodeOk w1 (za, ze, zb) z) ∧ Below wx.heap.size wx wy) (fun _ i _ => 20 - (intOf i).toNat)
      case atStart => exact ⟨0, [], Nat.zero_le _, rfl, Kd.R_nil _ _ _ _ _, Nat.le_refl _, by simp, Below.refl _ _⟩
      case round =>
        obtain ⟨t, xs, ht, rfl, hR, hxl, hxo, hB⟩ := hrel
        rename World => wy
        have hBy := below_then HX.out.2.2 HX.out.2.2.size hB
        have hbx := blk_grown HR1.out (grown_of_below hBy) (by simp)
        have c0 := (blk_cell hbx 0).trans rfl
        have c1 := (blk_cell hbx 1).trans rfl
        have c2 := (blk_cell hbx 2).trans rfl
        have hgl : g < wy.heap.size := (Array.getElem?_eq_some_iff.1 hbx).1
        have HY := Lib.hid (And.intro hR (And.intro hxl (And.intro hxo (And.intro hB (And.intro hBy hbx)))))
        have ht0 : (0 : Int) ≤ (t : Int) := by omega
        clear hR hxl hxo hB hbx
        by_cases hkn : k < nl
        · have hkni1 : (k : Int) < (nl : Int) := by omega
          obtain ⟨adR, l, B, d, rfl, hl, a0, hlc, hCl⟩ := at_KR (Kd.C_below HC.out HB1.out) k hkn
          have a0 := cell_step (grown_of_below hBy) a0 (by simp)
          have hlm := List.mem_of_getElem? hl
          have HWl := Lib.hid (HW.out l hlm)
          clear hl hlm
          by_cases htl : t < l.length
          · have htli : (t : Int) < (l.length : Int) := by omega
            by_cases ht20 : t < 20
            · have ht20i : (t : Int) < 20 := by omega
              obtain ⟨ad2, z, rfl, hz, hr, b0, b1, b2⟩ := at_KC hCl t htl
              have b0 := cell_step (grown_of_below hBy) b0 (by simp)
              have b1 := cell_step (grown_of_below hBy) b1 (by simp)
              have b2 := cell_step (grown_of_below hBy) b2 (by simp)
              have HZ2 := Lib.hid (And.intro hr (HWl.out z.c3 (List.mem_of_getElem? hz)))
              have HA := Lib.hid (And.intro (Kd.R_alloc HY.out.1 (.cells (enc4 z).toArray 28)) (And.intro (HY.out.2.2.2.1.alloc HY.out.2.2.2.1.size (.cells (enc4 z).toArray 28)) (HY.out.2.2.2.1.alloc HY.out.2.2.2.1.size (.cells (enc4 z).toArray 28)).size))
              have hl40 : (xs.length + 1) * 40 ≤ 140737488355328 := by have := HY.out.2.1; omega
              have hgn : g ≠ wy.heap.size := by omega
              have hng : wy.heap.size ≠ g := by omega
              clear hz hr hBy hCl
              obtain ⟨ya, ye, yb, yA, yc⟩ := z
              simp only at b0 b1 b2
              simp only [enc4] at HA
              have HSZ : RowKit.Hid (wy.heap.size + 1 = (wy.alloc (.cells #[.int .i64 ya, .int .i64 ye, .slice yA yb.length yc] 28)).heap.size) := Lib.hid (by simp)
              by_cases hat : ya = za
              · subst hat
                by_cases hep : ye < ze
                · have hzc : OkC (ya, ze, zb) (C4.c3 ⟨ya, ye, yb, yA, yc⟩) := .inr (.inl hep)
                  have HZc := Lib.hid hzc
                  clear hzc
                  go_wp2_with (first
                    | ((with_reducible refine gate_builtin (b := .append) (xs := #[.tmp 70, .tmp 72]) rfl ?_); at_builtin; refine Kd.R_append K4 (w0 := wx) wx.heap.size rfl (.tmp 70) (.tmp 72) 31 28 (.agg #[.int .i64 0, .int .i64 0, .slice none 0 0]) 40 rfl Try.underlying31 infoCell rfl (by decide) (by decide) u13 xs ⟨ya, ye, yb, yA, yc⟩ (enc4 ⟨ya, ye, yb, yA, yc⟩) (fun _ => True) (fun _ => False) rfl (congrArg (fun k => Value.slice (some ⟨k, 0, none⟩) 1 1) HSZ.out) rfl (fun _ hk => hk.elim) (fun _ _ => trivial) HA.out.1 HA.out.2.1 HA.out.2.2 hl40 ?_; intro v1 w4 hR4 hb4 hg4 hat4)
                    | go_in)
                  go_roundw
                  case rel =>
                    refine ⟨t + 1, xs ++ [⟨ya, ye, yb, yA, yc⟩], by omega, by go_num, hR4, by rw [List.length_append, List.length_singleton]; have := HY.out.2.1; omega, fun y hy => ?_, hb4⟩
                    rcases List.mem_append.1 hy with hy | hy
                    · exact HY.out.2.2.1 y hy
                    · obtain rfl : y = ⟨ya, ye, yb, yA, yc⟩ := by simpa using hy
                      exact ⟨HZ2.out.1, HZ2.out.2.1, HZ2.out.2.2, HZc.out⟩
                  case measure => simp only [intOf]; omega
                · go_wp2_with fail
                  go_roundw
                  case rel => exact ⟨t + 1, xs, by omega, by go_num, HA.out.1, by have := HY.out.2.1; omega, HY.out.2.2.1, HA.out.2.1⟩
                  case measure => simp only [intOf]; omega
              · have hzc : OkC (za, ze, zb) (C4.c3 ⟨ya, ye, yb, yA, yc⟩) := .inl hat
                have HZc := Lib.hid hzc
                clear hzc
                go_wp2_with (first
                  | ((with_reducible refine gate_builtin (b := .append) (xs := #[.tmp 70, .tmp 72]) rfl ?_); at_builtin; refine Kd.R_append K4 (w0 := wx) wx.heap.size rfl (.tmp 70) (.tmp 72) 31 28 (.agg #[.int .i64 0, .int .i64 0, .slice none 0 0]) 40 rfl Try.underlying31 infoCell rfl (by decide) (by decide) u13 xs ⟨ya, ye, yb, yA, yc⟩ (enc4 ⟨ya, ye, yb, yA, yc⟩) (fun _ => True) (fun _ => False) rfl (congrArg (fun k => Value.slice (some ⟨k, 0, none⟩) 1 1) HSZ.out) rfl (fun _ hk => hk.elim) (fun _ _ => trivial) HA.out.1 HA.out.2.1 HA.out.2.2 hl40 ?_; intro v1 w4 hR4 hb4 hg4 hat4)
                  | go_in)
                go_roundw
                case rel =>
                  refine ⟨t + 1, xs ++ [⟨ya, ye, yb, yA, yc⟩], by omega, by go_num, hR4, by rw [List.length_append, List.length_singleton]; have := HY.out.2.1; omega, fun y hy => ?_, hb4⟩
                  rcases List.mem_append.1 hy with hy | hy
                  · exact HY.out.2.2.1 y hy
                  · obtain rfl : y = ⟨ya, ye, yb, yA, yc⟩ := by simpa using hy
                    exact ⟨HZ2.out.1, HZ2.out.2.1, HZ2.out.2.2, HZc.out⟩
                case measure => simp only [intOf]; omega
            · have ht20i : (20 : Int) ≤ (t : Int) := by omega
              clear hBy hCl
              skip
              by_cases hkn2 : k < need
              · have hkni : (k : Int) < (need : Int) := by omega
                have hl40 : (xs.length + 1) * 40 ≤ 140737488355328 := by have := HY.out.2.1; omega
                have hl24 : (xss.length + 1) * 24 ≤ 140737488355328 := by have := HX.out.2.1.1; omega
                have hbs := HY.out.2.2.2.1.size
                go_wp2_with (first
                  | (go_at_call 8; refine (hN _).mono ?_; rintro e w' ⟨rfl, rfl⟩)
                  | ((with_reducible refine gate_builtin (b := .append) (xs := #[.tmp 78, .tmp 80]) rfl ?_); at_builtin; refine Kd.R_append K4 (w0 := wx) wx.heap.size rfl (.tmp 78) (.tmp 80) 31 28 (.agg #[.int .i64 0, .int .i64 0, .slice none 0 0]) 40 rfl Try.underlying31 infoCell rfl (by decide) (by decide) u13 xs ⟨za, ze, zb, zA, zc⟩ (enc4 ⟨za, ze, zb, zA, zc⟩) (fun _ => True) (fun _ => False) rfl rfl rfl (fun _ hk => hk.elim) (fun _ _ => trivial) HY.out.1 HY.out.2.2.2.1 hbs hl40 ?_; intro v1 w4 hR4 hb4 hg4 hat4; obtain ⟨A9, c9, e9⟩ := Kd.R_slice hR4; obtain ⟨n9, hn9⟩ : ∃ d : Nat, d = (xs ++ [(⟨za, ze, zb, zA, zc⟩ : C4)]).length := ⟨_, rfl⟩; rw [← hn9] at e9; subst e9; have HN9 := Lib.hid hn9; clear hn9)
                  | ((with_reducible refine gate_builtin (b := .append) (xs := #[.tmp 82, .tmp 84]) rfl ?_); at_builtin; refine Kd.R_append KN (w0 := w1) w1.heap.size rfl (.tmp 82) (.tmp 84) 29 31 (.slice none 0 0) 24 rfl Try.underlying29 infoRow rfl (by decide) (by decide) u11 xss (xs ++ [⟨za, ze, zb, zA, zc⟩]) [.slice A9 n9 c9] (fun _ => True) (fun k => True ∧ some k ≠ u11.ownBlock) rfl rfl ⟨_, rfl, Kd.R_lower (Kd.R_newR hR4 HX.out.1) HX.out.2.2.size⟩ (fun _ hk => hk) (fun _ _ => trivial) (Kd.R_below HX.out.1 hb4) (below_then HX.out.2.2 HX.out.2.2.size hb4) (below_then HX.out.2.2 HX.out.2.2.size hb4).size hl24 ?_; intro v2 w5 hR5 hb5 hg5 hat5)
                  | go_in)
                go_roundw
                case rel =>
                  refine ⟨k + 1, xss ++ [xs ++ [⟨za, ze, zb, zA, zc⟩]], by omega, by go_num, hR5, HX.out.2.1.snoc (by rw [List.length_append, List.length_singleton]; have := HY.out.2.1; omega) (fun y hy => ?_) (fun _ => ⟨⟨za, ze, zb, zA, zc⟩, by simp, rfl⟩), hb5⟩
                  rcases List.mem_append.1 hy with hy | hy
                  · exact HY.out.2.2.1 y hy
                  · obtain rfl : y = ⟨za, ze, zb, zA, zc⟩ := by simpa using hy
                    exact ⟨HZ.out.1.below HB1.out, HZ.out.2.1, HZ.out.2.2, .inr (.inr rfl)⟩
                case measure => simp [intOf]; omega
              · have hkni : (need : Int) ≤ (k : Int) := by omega
                have hl24 : (xss.length + 1) * 24 ≤ 140737488355328 := by have := HX.out.2.1.1; omega
                obtain ⟨A9, c9, e9⟩ := Kd.R_slice HY.out.1
                obtain ⟨n9, hn9⟩ : ∃ d : Nat, d = (xs).length := ⟨_, rfl⟩
                rw [← hn9] at e9
                subst e9
                have HN9 := Lib.hid hn9
                clear hn9
                go_wp2_with (first
                  | (go_at_call 8; refine (hN _).mono ?_; rintro e w' ⟨rfl, rfl⟩)
                  | ((with_reducible refine gate_builtin (b := .append) (xs := #[.tmp 82, .tmp 84]) rfl ?_); at_builtin; refine Kd.R_append KN (w0 := w1) w1.heap.size rfl (.tmp 82) (.tmp 84) 29 31 (.slice none 0 0) 24 rfl Try.underlying29 infoRow rfl (by decide) (by decide) u11 xss xs [.slice A9 n9 c9] (fun _ => True) (fun k => True ∧ some k ≠ u11.ownBlock) rfl rfl ⟨_, rfl, Kd.R_lower (Kd.R_newR HY.out.1 HX.out.1) HX.out.2.2.size⟩ (fun _ hk => hk) (fun _ _ => trivial) (Kd.R_below HX.out.1 HY.out.2.2.2.1) HY.out.2.2.2.2.1 HY.out.2.2.2.2.1.size hl24 ?_; intro v2 w5 hR5 hb5 hg5 hat5)
                  | go_in)
                go_roundw
                case rel => exact ⟨k + 1, xss ++ [xs], by omega, by go_num, hR5, HX.out.2.1.snoc (by have := HY.out.2.1; omega) HY.out.2.2.1 (fun h => absurd h hkn2), hb5⟩
                case measure => simp [intOf]; omega
          · have htli : (l.length : Int) ≤ (t : Int) := by omega
            clear hBy hCl
            skip
            by_cases hkn2 : k < need
            · have hkni : (k : Int) < (need : Int) := by omega
              have hl40 : (xs.length + 1) * 40 ≤ 140737488355328 := by have := HY.out.2.1; omega
              have hl24 : (xss.length + 1) * 24 ≤ 140737488355328 := by have := HX.out.2.1.1; omega
              have hbs := HY.out.2.2.2.1.size
              go_wp2_with (first
                | (go_at_call 8; refine (hN _).mono ?_; rintro e w' ⟨rfl, rfl⟩)
                | ((with_reducible refine gate_builtin (b := .append) (xs := #[.tmp 78, .tmp 80]) rfl ?_); at_builtin; refine Kd.R_append K4 (w0 := wx) wx.heap.size rfl (.tmp 78) (.tmp 80) 31 28 (.agg #[.int .i64 0, .int .i64 0, .slice none 0 0]) 40 rfl Try.underlying31 infoCell rfl (by decide) (by decide) u13 xs ⟨za, ze, zb, zA, zc⟩ (enc4 ⟨za, ze, zb, zA, zc⟩) (fun _ => True) (fun _ => False) rfl rfl rfl (fun _ hk => hk.elim) (fun _ _ => trivial) HY.out.1 HY.out.2.2.2.1 hbs hl40 ?_; intro v1 w4 hR4 hb4 hg4 hat4; obtain ⟨A9, c9, e9⟩ := Kd.R_slice hR4; obtain ⟨n9, hn9⟩ : ∃ d : Nat, d = (xs ++ [(⟨za, ze, zb, zA, zc⟩ : C4)]).length := ⟨_, rfl⟩; rw [← hn9] at e9; subst e9; have HN9 := Lib.hid hn9; clear hn9)
                | ((with_reducible refine gate_builtin (b := .append) (xs := #[.tmp 82, .tmp 84]) rfl ?_); at_builtin; refine Kd.R_append KN (w0 := w1) w1.heap.size rfl (.tmp 82) (.tmp 84) 29 31 (.slice none 0 0) 24 rfl Try.underlying29 infoRow rfl (by decide) (by decide) u11 xss (xs ++ [⟨za, ze, zb, zA, zc⟩]) [.slice A9 n9 c9] (fun _ => True) (fun k => True ∧ some k ≠ u11.ownBlock) rfl rfl ⟨_, rfl, Kd.R_lower (Kd.R_newR hR4 HX.out.1) HX.out.2.2.size⟩ (fun _ hk => hk) (fun _ _ => trivial) (Kd.R_below HX.out.1 hb4) (below_then HX.out.2.2 HX.out.2.2.size hb4) (below_then HX.out.2.2 HX.out.2.2.size hb4).size hl24 ?_; intro v2 w5 hR5 hb5 hg5 hat5)
                | go_in)
              go_roundw
              case rel =>
                refine ⟨k + 1, xss ++ [xs ++ [⟨za, ze, zb, zA, zc⟩]], by omega, by go_num, hR5, HX.out.2.1.snoc (by rw [List.length_append, List.length_singleton]; have := HY.out.2.1; omega) (fun y hy => ?_) (fun _ => ⟨⟨za, ze, zb, zA, zc⟩, by simp, rfl⟩), hb5⟩
                rcases List.mem_append.1 hy with hy | hy
                · exact HY.out.2.2.1 y hy
                · obtain rfl : y = ⟨za, ze, zb, zA, zc⟩ := by simpa using hy
                  exact ⟨HZ.out.1.below HB1.out, HZ.out.2.1, HZ.out.2.2, .inr (.inr rfl)⟩
              case measure => simp [intOf]; omega
            · have hkni : (need : Int) ≤ (k : Int) := by omega
              have hl24 : (xss.length + 1) * 24 ≤ 140737488355328 := by have := HX.out.2.1.1; omega
              obtain ⟨A9, c9, e9⟩ := Kd.R_slice HY.out.1
              obtain ⟨n9, hn9⟩ : ∃ d : Nat, d = (xs).length := ⟨_, rfl⟩
              rw [← hn9] at e9
              subst e9
              have HN9 := Lib.hid hn9
              clear hn9
              go_wp2_with (first
                | (go_at_call 8; refine (hN _).mono ?_; rintro e w' ⟨rfl, rfl⟩)
                | ((with_reducible refine gate_builtin (b := .append) (xs := #[.tmp 82, .tmp 84]) rfl ?_); at_builtin; refine Kd.R_append KN (w0 := w1) w1.heap.size rfl (.tmp 82) (.tmp 84) 29 31 (.slice none 0 0) 24 rfl Try.underlying29 infoRow rfl (by decide) (by decide) u11 xss xs [.slice A9 n9 c9] (fun _ => True) (fun k => True ∧ some k ≠ u11.ownBlock) rfl rfl ⟨_, rfl, Kd.R_lower (Kd.R_newR HY.out.1 HX.out.1) HX.out.2.2.size⟩ (fun _ hk => hk) (fun _ _ => trivial) (Kd.R_below HX.out.1 HY.out.2.2.2.1) HY.out.2.2.2.2.1 HY.out.2.2.2.2.1.size hl24 ?_; intro v2 w5 hR5 hb5 hg5 hat5)
                | go_in)
              go_roundw
              case rel => exact ⟨k + 1, xss ++ [xs], by omega, by go_num, hR5, HX.out.2.1.snoc (by have := HY.out.2.1; omega) HY.out.2.2.1 (fun h => absurd h hkn2), hb5⟩
              case measure => simp [intOf]; omega
        · have hkni1 : (nl : Int) ≤ (k : Int) := by omega
          clear hBy
          skip
          by_cases hkn2 : k < need
          · have hkni : (k : Int) < (need : Int) := by omega
            have hl40 : (xs.length + 1) * 40 ≤ 140737488355328 := by have := HY.out.2.1; omega
            have hl24 : (xss.length + 1) * 24 ≤ 140737488355328 := by have := HX.out.2.1.1; omega
            have hbs := HY.out.2.2.2.1.size
            go_wp2_with (first
              | (go_at_call 8; refine (hN _).mono ?_; rintro e w' ⟨rfl, rfl⟩)
              | ((with_reducible refine gate_builtin (b := .append) (xs := #[.tmp 78, .tmp 80]) rfl ?_); at_builtin; refine Kd.R_append K4 (w0 := wx) wx.heap.size rfl (.tmp 78) (.tmp 80) 31 28 (.agg #[.int .i64 0, .int .i64 0, .slice none 0 0]) 40 rfl Try.underlying31 infoCell rfl (by decide) (by decide) u13 xs ⟨za, ze, zb, zA, zc⟩ (enc4 ⟨za, ze, zb, zA, zc⟩) (fun _ => True) (fun _ => False) rfl rfl rfl (fun _ hk => hk.elim) (fun _ _ => trivial) HY.out.1 HY.out.2.2.2.1 hbs hl40 ?_; intro v1 w4 hR4 hb4 hg4 hat4; obtain ⟨A9, c9, e9⟩ := Kd.R_slice hR4; obtain ⟨n9, hn9⟩ : ∃ d : Nat, d = (xs ++ [(⟨za, ze, zb, zA, zc⟩ : C4)]).length := ⟨_, rfl⟩; rw [← hn9] at e9; subst e9; have HN9 := Lib.hid hn9; clear hn9)
              | ((with_reducible refine gate_builtin (b := .append) (xs := #[.tmp 82, .tmp 84]) rfl ?_); at_builtin; refine Kd.R_append KN (w0 := w1) w1.heap.size rfl (.tmp 82) (.tmp 84) 29 31 (.slice none 0 0) 24 rfl Try.underlying29 infoRow rfl (by decide) (by decide) u11 xss (xs ++ [⟨za, ze, zb, zA, zc⟩]) [.slice A9 n9 c9] (fun _ => True) (fun k => True ∧ some k ≠ u11.ownBlock) rfl rfl ⟨_, rfl, Kd.R_lower (Kd.R_newR hR4 HX.out.1) HX.out.2.2.size⟩ (fun _ hk => hk) (fun _ _ => trivial) (Kd.R_below HX.out.1 hb4) (below_then HX.out.2.2 HX.out.2.2.size hb4) (below_then HX.out.2.2 HX.out.2.2.size hb4).size hl24 ?_; intro v2 w5 hR5 hb5 hg5 hat5)
              | go_in)
            go_roundw
            case rel =>
              refine ⟨k + 1, xss ++ [xs ++ [⟨za, ze, zb, zA, zc⟩]], by omega, by go_num, hR5, HX.out.2.1.snoc (by rw [List.length_append, List.length_singleton]; have := HY.out.2.1; omega) (fun y hy => ?_) (fun _ => ⟨⟨za, ze, zb, zA, zc⟩, by simp, rfl⟩), hb5⟩
              rcases List.mem_append.1 hy with hy | hy
              · exact HY.out.2.2.1 y hy
              · obtain rfl : y = ⟨za, ze, zb, zA, zc⟩ := by simpa using hy
                exact ⟨HZ.out.1.below HB1.out, HZ.out.2.1, HZ.out.2.2, .inr (.inr rfl)⟩
            case measure => simp [intOf]; omega
          · have hkni : (need : Int) ≤ (k : Int) := by omega
            have hl24 : (xss.length + 1) * 24 ≤ 140737488355328 := by have := HX.out.2.1.1; omega
            obtain ⟨A9, c9, e9⟩ := Kd.R_slice HY.out.1
            obtain ⟨n9, hn9⟩ : ∃ d : Nat, d = (xs).length := ⟨_, rfl⟩
            rw [← hn9] at e9
            subst e9
            have HN9 := Lib.hid hn9
            clear hn9
            go_wp2_with (first
              | (go_at_call 8; refine (hN _).mono ?_; rintro e w' ⟨rfl, rfl⟩)
              | ((with_reducible refine gate_builtin (b := .append) (xs := #[.tmp 82, .tmp 84]) rfl ?_); at_builtin; refine Kd.R_append KN (w0 := w1) w1.heap.size rfl (.tmp 82) (.tmp 84) 29 31 (.slice none 0 0) 24 rfl Try.underlying29 infoRow rfl (by decide) (by decide) u11 xss xs [.slice A9 n9 c9] (fun _ => True) (fun k => True ∧ some k ≠ u11.ownBlock) rfl rfl ⟨_, rfl, Kd.R_lower (Kd.R_newR HY.out.1 HX.out.1) HX.out.2.2.size⟩ (fun _ hk => hk) (fun _ _ => trivial) (Kd.R_below HX.out.1 HY.out.2.2.2.1) HY.out.2.2.2.2.1 HY.out.2.2.2.2.1.size hl24 ?_; intro v2 w5 hR5 hb5 hg5 hat5)
              | go_in)
            go_roundw
            case rel => exact ⟨k + 1, xss ++ [xs], by omega, by go_num, hR5, HX.out.2.1.snoc (by have := HY.out.2.1; omega) HY.out.2.2.1 (fun h => absurd h hkn2), hb5⟩
            case measure => simp [intOf]; omega
    · obtain rfl : k = m := by omega
      have hRN := HX.out.1
      obtain ⟨A5, c5, rfl, hc5, hC5⟩ := C_of_KN hRN (fun xs hxs z hz => ((HX.out.2.1.2.1 xs hxs).2 z hz).1.below HX.out.2.2)
      have hxk := HX.out.2.1.1
      rw [hxk] at hc5 hC5 ⊢
      have HC5 := Lib.hid hC5
      have HRW := Lib.hid (fun (j : Nat) (l : List C3) (hl : (xss.map (List.map C4.c3))[j]? = some l) => HX.out.2.1.row hl)
      have HBX := Lib.hid HX.out.2.2
      generalize xss.map (List.map C4.c3) = NL at *
      have hneed : need ≤ k := by have := HNE.out; omega
      have hneedi : (need : Int) ≤ (k : Int) := by omega
      have hkki : ¬ (k : Int) < (k : Int) := by omega
      have hn0 : (0 : Int) ≤ (need : Int) := by omega
      clear hRN hC5 hxk HX hkm hk
      go_wp2_with (first
        | (go_at_call 8; refine (hN _).mono ?_; rintro e w' ⟨rfl, rfl⟩)
        | go_in)
      rename World => wx
      go_loopw [16, 17, 18] (fun v l i wy => ∃ (j : Nat) (L : Int) (ds : List RD), j ≤ k ∧ i = .int .i64 j ∧ l = .int .i64 L ∧ K1.R 31 wy wx.heap.size (fun _ => True) v ds ∧ Asked wx (za, ze, zb) need j ((k : Int) - need) L ds ∧ Below wx.heap.size wx wy) (fun _ _ i _ => k - (intOf i).toNat)
      case atStart => exact ⟨0, (k : Int) - need, [], Nat.zero_le _, rfl, by go_num, Kd.R_nil _ _ _ _ _, ⟨Nat.le_refl _, by omega, by omega, by simp, .inr (by omega)⟩, Below.refl _ _⟩
      case round =>
        obtain ⟨j, L, ds, hj, rfl, rfl, hR, hA, hB⟩ := hrel
        rename World => wy
        have hL0 : 0 ≤ L := hA.2.1
        have hL7 : L ≤ 7 := by have := hA.2.2.1; omega
        have hl24 : (ds.length + 1) * 24 ≤ 140737488355328 := by have := hA.1; omega
        have HY := Lib.hid (And.intro hR (And.intro hA hB))
        have hbs := hB.size
        clear hR hA hB
        by_cases hjk : j < k
        · have hjki : (j : Int) < (k : Int) := by omega
          have hj0 : (0 : Int) ≤ (j : Int) := by omega
          obtain ⟨adR, l, B, d, rfl, hl, a0, hlc, hCl⟩ := at_KR HC5.out j hjk
          have a0 := cell_step (grown_of_below HY.out.2.2) a0 (by simp)
          have HRl := Lib.hid (And.intro (show RD.rd wx ⟨l, B, d⟩ from ⟨hlc, hCl⟩) (HRW.out j l hl))
          clear hl hlc hCl
          by_cases hjb : j < nb
          · have hjbi : (j : Int) < (nb : Int) := by omega
            obtain ⟨ad, b, rfl, hb, b0⟩ := at_B HS.out j hjb
            have b0 := cell_step (grown_of_below (below_then HB1.out HB1.out.size (below_then HBX.out HBX.out.size HY.out.2.2))) b0 (by simp)
            clear hb
            cases b with
            | true =>
              by_cases hL : 0 < L
              · go_wp2_with fail
                go_roundw
                case rel => exact ⟨j + 1, L - 1, ds, by omega, by go_num, by go_num, HY.out.1, HY.out.2.1.skip hL, HY.out.2.2⟩
                case measure => simp only [intOf]; omega
              · go_wp2_with (first
                  | ((with_reducible refine gate_builtin (b := .append) (xs := #[.tmp 111, .tmp 116]) rfl ?_); at_builtin; refine Kd.R_append K1 (w0 := wx) wx.heap.size rfl (.tmp 111) (.tmp 116) 29 31 (.slice none 0 0) 24 rfl Try.underlying29 infoRow rfl (by decide) (by decide) u16 ds ⟨l, B, d⟩ [.slice B l.length d] (fun _ => True) (fun _ => False) rfl rfl rfl (fun _ hk => hk.elim) (fun _ _ => trivial) HY.out.1 HY.out.2.2 hbs hl24 ?_; intro v1 w4 hR4 hb4 hg4 hat4)
                  | go_in)
                go_roundw
                case rel => exact ⟨j + 1, L, ds ++ [⟨l, B, d⟩], by omega, by go_num, rfl, hR4, HY.out.2.1.add ⟨HRl.out.1, HRl.out.2.1⟩ HRl.out.2.2, hb4⟩
                case measure => simp only [intOf]; omega
            | false =>
              go_wp2_with (first
                | ((with_reducible refine gate_builtin (b := .append) (xs := #[.tmp 111, .tmp 116]) rfl ?_); at_builtin; refine Kd.R_append K1 (w0 := wx) wx.heap.size rfl (.tmp 111) (.tmp 116) 29 31 (.slice none 0 0) 24 rfl Try.underlying29 infoRow rfl (by decide) (by decide) u16 ds ⟨l, B, d⟩ [.slice B l.length d] (fun _ => True) (fun _ => False) rfl rfl rfl (fun _ hk => hk.elim) (fun _ _ => trivial) HY.out.1 HY.out.2.2 hbs hl24 ?_; intro v1 w4 hR4 hb4 hg4 hat4)
                | go_in)
              go_roundw
              case rel => exact ⟨j + 1, L, ds ++ [⟨l, B, d⟩], by omega, by go_num, rfl, hR4, HY.out.2.1.add ⟨HRl.out.1, HRl.out.2.1⟩ HRl.out.2.2, hb4⟩
              case measure => simp only [intOf]; omega
          · have hjbi : (nb : Int) ≤ (j : Int) := by omega
            go_wp2_with (first
              | ((with_reducible refine gate_builtin (b := .append) (xs := #[.tmp 111, .tmp 116]) rfl ?_); at_builtin; refine Kd.R_append K1 (w0 := wx) wx.heap.size rfl (.tmp 111) (.tmp 116) 29 31 (.slice none 0 0) 24 rfl Try.underlying29 infoRow rfl (by decide) (by decide) u16 ds ⟨l, B, d⟩ [.slice B l.length d] (fun _ => True) (fun _ => False) rfl rfl rfl (fun _ hk => hk.elim) (fun _ _ => trivial) HY.out.1 HY.out.2.2 hbs hl24 ?_; intro v1 w4 hR4 hb4 hg4 hat4)
              | go_in)
            go_roundw
            case rel => exact ⟨j + 1, L, ds ++ [⟨l, B, d⟩], by omega, by go_num, rfl, hR4, HY.out.2.1.add ⟨HRl.out.1, HRl.out.2.1⟩ HRl.out.2.2, hb4⟩
            case measure => simp only [intOf]; omega
        · obtain rfl : j = k := by omega
          have hkk : ¬ (j : Int) < (j : Int) := by omega
          obtain ⟨A6, c6, rfl, hc6, hK6⟩ := Kd.R_reads HY.out.1
          have hC6 := C_of_K1 hK6 (fun d hd => RD.rd_below (HY.out.2.1.2.2.2.1 d hd).1 HY.out.2.2)
          have hlen6 : ds.length = (ds.map RD.x).length := (List.length_map ..).symm
          have hhas := HY.out.2.1.has HNE.out
          have hflat := HY.out.2.1.flat hm7
          have hWf : ∀ l ∈ ds.map RD.x, ∀ x ∈ l, W64 x.1 ∧ x.2.2.length ≤ 140737488355328 := fun l hl x hx => by
            obtain ⟨d, hd, rfl⟩ := List.mem_map.1 hl
            have := (HY.out.2.1.2.2.2.1 d hd).2.2 x hx
            exact ⟨this.1, this.2.1⟩
          have HBY := Lib.hid (below_then HBX.out HBX.out.size HY.out.2.2)
          rw [hlen6] at hc6 ⊢
          clear hlen6 hK6 HY hl24 hbs
          generalize ds.map RD.x = LL at *
          have hme := merge_calls LL A6 c6 wy hC6 hWf (by omega)
          have HH := Lib.hid hhas
          clear hC6 hWf hhas
          go_wp2_with fail
          refine hme.mono ?_
          rintro e w3 ⟨v3, out, rfl, hR3, hO3, hm3, hb3⟩
          obtain ⟨A7, c7, rfl, hc7, hK7⟩ := Kd.R_reads hR3
          obtain ⟨_, _, hM⟩ := C_of_K4 hR3 (fun z hz => (hO3 z hz).rd)
          have hol : out.length = (mergeM LL.flatten).length := by rw [← hm3, List.length_map]
          rw [hm3] at hM
          rw [hol] at hc7 ⊢
          have HB3 := Lib.hid (below_then HBY.out HBY.out.size hb3)
          have HM := Lib.hid hM
          have HS2 := Lib.hid (fun (x : C3) (hx : x ∈ mergeM LL.flatten) (h : x.1 = za) => keeps_same HH.out hx h)
          have hml := Nat.le_trans (merge_len LL.flatten) hflat
          clear hme hR3 hO3 hm3 hb3 hK7 hM hol
          generalize mergeM LL.flatten = M at *
          obtain ⟨n, hn⟩ : ∃ n, n = M.length := ⟨_, rfl⟩
          rw [← hn] at HM hc7 hml ⊢
          have HN := Lib.hid hn
          clear hn
          go_wp2_with fail
          go_loopw [20] (fun i wz => ∃ t : Nat, t ≤ n ∧ i = .int .i64 (t : Int) ∧ Below w3.heap.size w3 wz ∧ ∀ (q : Nat) (x : C3), q < t → M[q]? = some x → x.1 ≠ za) (fun i _ => n - (intOf i).toNat)
          case atStart => exact ⟨0, Nat.zero_le _, rfl, Below.refl _ _, fun q x h => absurd h (Nat.not_lt_zero _)⟩
          case round =>
            obtain ⟨t, ht, rfl, hB, hno⟩ := hrel
            rename World => wz
            have HNO := Lib.hid hno
            clear hno
            by_cases htn : t < n
            · have htni : (t : Int) < (n : Int) := by omega
              have ht0 : (0 : Int) ≤ (t : Int) := by omega
              obtain ⟨ad, x, rfl, hx, hrx, a0, a1, a2⟩ := at_KC (Kd.C_below HM.out hB) t htn
              have hBz := below_then HB3.out HB3.out.size hB
              have hbx := blk_grown HR1.out (grown_of_below hBz) (by simp)
              have b0 := (blk_cell hbx 0).trans rfl
              have b1 := (blk_cell hbx 1).trans rfl
              have b2 := (blk_cell hbx 2).trans rfl
              have HX2 := Lib.hid (And.intro hx (And.intro hrx hB))
              clear hx hrx hB hBz hbx
              by_cases hat : x.at_ = za
              · have hxc : x.c3 = (za, ze, zb) := HS2.out x.c3 (List.mem_of_getElem? HX2.out.1) hat
                obtain ⟨ya, ye, yb, yA, yc⟩ := x
                obtain ⟨rfl, rfl, rfl⟩ : ya = za ∧ ye = ze ∧ yb = zb := by simpa [C4.c3] using hxc
                simp only at a0 a1 a2
                go_wp2_with fail
                go_quiet (fail)
                go_wp2_with fail
                rename Nat => nq
                have hBq := pw_below_drewN HX2.out.2.2 nq
                have HBq := Lib.hid hBq
                have e0 := cell_step (grown_of_below (pw_below_drewN (Below.refl wz.heap.size wz) nq)) a0 (by simp)
                have e1 := cell_step (grown_of_below (pw_below_drewN (Below.refl wz.heap.size wz) nq)) a1 (by simp)
                have e2 := cell_step (grown_of_below (pw_below_drewN (Below.refl wz.heap.size wz) nq)) a2 (by simp)
                have d0 := cell_step (grown_of_below (pw_below_drewN (Below.refl wz.heap.size wz) nq)) b0 (by simp)
                have d1 := cell_step (grown_of_below (pw_below_drewN (Below.refl wz.heap.size wz) nq)) b1 (by simp)
                have d2 := cell_step (grown_of_below (pw_below_drewN (Below.refl wz.heap.size wz) nq)) b2 (by simp)
                have hrq := HX2.out.2.1.below (pw_below_drewN (Below.refl wz.heap.size wz) nq)
                have HRQ := Lib.hid hrq
                clear hBq a0 a1 a2 b0 b1 b2 hrq
                generalize wz.drewN nq = X at *
                have HWX := Lib.hid (below_then HB1.out HB1.out.size (below_then HB3.out HB3.out.size HBq.out))
                have HRZ := Lib.hid (HZ.out.1.below (pw_below_drewN HWX.out 1))
                have hsm := same_calls (x := ⟨ya, ye, yb, yA, yc⟩) (w := X.drewN 1) (A := zA) (d := zc) (HRQ.out.below (pw_below_drewN (Below.refl _ _) 1)) HRZ.out.1 HRZ.out.2
                have HSM := Lib.hid hsm
                clear hsm
                go_still_tail 7, (by kernel_rfl)
                change wpList _ _ _ _ _ (X.drewN 1)
                go_wp2_with fail
                refine HSM.out.mono ?_
                rintro e w9 ⟨rfl, hb9⟩
                have HB9 := Lib.hid (below_then (pw_below_drewN HWX.out 1) (pw_below_drewN HWX.out 1).size hb9)
                clear hb9 e0 e1 e2 d0 d1 d2
                go_wp2_with fail
                go_ret
                exact ⟨rfl, HB9.out⟩
              · go_wp2_with fail
                go_quiet (fail)
                go_wp2_with fail
                go_roundw
                case rel =>
                  refine ⟨t + 1, by omega, by go_num, pw_below_drewN HX2.out.2.2 _, fun q y hq hy => ?_⟩
                  by_cases hqt : q = t
                  · subst hqt
                    rw [HX2.out.1] at hy
                    obtain rfl := Option.some.inj hy
                    exact hat
                  · exact HNO.out q y (by omega) hy
                case measure => simp only [intOf]; omega
            · exfalso
              obtain ⟨q, hq, he⟩ := List.mem_iff_getElem.1 HH.out
              have hNN := HN.out
              exact HNO.out q _ (by omega) (List.getElem?_eq_getElem hq) (by rw [he])
end Go.Proofs.Ytnnahbmhjjamcaa.Quor
