import Derived.Test.YtmphlgihmggoaaaDiskRf
import Derived.Test.YtmphlgihmggoaaaPDiskPlaysx1
/- The document's disk: the contract of Crash, over fields that are read. -/
namespace Go.Proofs.Ytmphlgihmggoaaa.DiskM
open Go.RowKit Go.Proofs.YtmphlgihmggoaaaW.PrintWords Go.Proofs.YtmphlgihmggoaaaW.PrintLast Go.Proofs.YtmphlgihmggoaaaW.PrintMore Go.Proofs.Ytmphlgihmggoaaa.Row Go.Proofs.Ytmphlgihmggoaaa.Cut
theorem xor8b (y m : Nat) (hy : y < 256) (hm : m < 8) : bits .xor .u8 (y : Int) ((2 ^ m : Nat) : Int) = ((y ^^^ 2 ^ m : Nat) : Int) := by
  have hb : 2 ^ m < 2 ^ 8 := Nat.pow_lt_pow_right (by omega) hm
  have ha' : y % 2 ^ IntKind.u8.bits = y := Nat.mod_eq_of_lt hy
  have hb' : 2 ^ m % 2 ^ IntKind.u8.bits = 2 ^ m := Nat.mod_eq_of_lt hb
  simp only [bits, BitVec.ofInt_natCast, BitVec.toNat_xor, BitVec.toNat_ofNat, ha', hb']
  exact wraps_u8 _ (Int.natCast_nonneg _) (by have := xor_lt y m hy hm; omega)
theorem xor8c (y m : Nat) (hy : y < 256) (hm : m < 8) : bits .xor .u8 (y : Int) ((2 : Int) ^ m) = ((y ^^^ 2 ^ m : Nat) : Int) := by
  rw [← xor8b y m hy hm]; simp
theorem crash_split (S M : List Int) (keep turn : Int) : crashM (S ++ M) S.length keep turn = S ++ crashM M 0 keep turn := by
  have h : crashN (S ++ M) S.length keep = crashN M 0 keep := by unfold crashN; rw [List.length_append]; omega
  have hl : crashL (S ++ M) S.length keep = S ++ crashL M 0 keep := by
    unfold crashL; rw [h, List.take_append, List.take_of_length_le (by omega)]; congr 2; omega
  have hn : (crashL M 0 keep).length = crashN M 0 keep := by unfold crashL; rw [List.length_take]; unfold crashN; omega
  unfold crashM
  rw [h, hl]
  generalize crashL M 0 keep = L at *
  split
  · rename_i hc
    have e : S.length + L.length - 1 - S.length = L.length - 1 := by omega
    rw [List.length_append, List.set_append_right _ _ (by omega), List.getD_eq_getElem?_getD, List.getElem?_append_right (by omega), ← List.getD_eq_getElem?_getD, e]
  · rfl
theorem rsync_f (room : Int) (S L : List Int) (hs : S.length ≤ 1048576) (hl : L.length ≤ 1048576) : PDiskPlays.tidemillref06_Sync.f room S L = some (room, S ++ L, []) := by
  unfold PDiskPlays.tidemillref06_Sync.f PDiskPlays.tidemillref06_Bytes.f
  rw [Option.bind_some, if_pos (by simp; omega), Option.bind_some, if_pos (by simp; omega), List.nil_append, Option.bind_some]
theorem crash_len0 (M : List Int) (keep turn : Int) : (crashM M 0 keep turn).length = crashN M 0 keep := by
  have hn : (crashL M 0 keep).length = crashN M 0 keep := by unfold crashL; rw [List.length_take]; unfold crashN; omega
  unfold crashM; split
  · rw [List.length_set]; exact hn
  · exact hn
/-- Behind the call of Sync: what is stored beside its rows. -/
theorem rsync_end {w W w9 : World} (hW : w.heap.size + 2 ≤ W.heap.size) (room : Int) (v1 v2 : Value) {xs ys : List Int} {ok1 ok2 : Nat → Prop} (h1 : Kd.R (Kd.int .u8) 5 w9 W.heap.size ok1 v1 xs) (h2 : Kd.R (Kd.int .u8) 5 w9 W.heap.size ok2 v2 ys) (hB : Below w.heap.size w w9) :
    Kd.R (Kd.int .u8) 5 (((w9.setCell ⟨w.heap.size + 1, 0, none⟩ (.int .i64 room)).setCell ⟨w.heap.size + 1, 1, none⟩ v1).setCell ⟨w.heap.size + 1, 2, none⟩ v2) w.heap.size (fun _ => True) v1 xs ∧ Kd.R (Kd.int .u8) 5 (((w9.setCell ⟨w.heap.size + 1, 0, none⟩ (.int .i64 room)).setCell ⟨w.heap.size + 1, 1, none⟩ v1).setCell ⟨w.heap.size + 1, 2, none⟩ v2) w.heap.size (fun _ => True) v2 ys ∧
    Below w.heap.size w (((w9.setCell ⟨w.heap.size + 1, 0, none⟩ (.int .i64 room)).setCell ⟨w.heap.size + 1, 1, none⟩ v1).setCell ⟨w.heap.size + 1, 2, none⟩ v2) := by
  have go : ∀ {ok : Nat → Prop} {v : Value} {zs : List Int}, Kd.R (Kd.int .u8) 5 w9 W.heap.size ok v zs → Kd.R (Kd.int .u8) 5 (((w9.setCell ⟨w.heap.size + 1, 0, none⟩ (.int .i64 room)).setCell ⟨w.heap.size + 1, 1, none⟩ v1).setCell ⟨w.heap.size + 1, 2, none⟩ v2) w.heap.size (fun _ => True) v zs := fun h =>
    Kd.R_lower (Kd.R_mono (Kd.R_move (Kd.R_bound h) (fun k hk => by
      have hne : k ≠ w.heap.size + 1 := by have := hk.2.1; omega
      rw [set_other _ hne, set_other _ hne, set_other _ hne])) (fun _ _ => trivial)) (by omega)
  exact ⟨go h1, go h2, below_set (below_set (below_set hB (Nat.le_succ _)) (Nat.le_succ _)) (Nat.le_succ _)⟩
set_option maxHeartbeats 4000000 in
set_option maxRecDepth 100000 in
theorem rcrash_calls (w : World) (room : Int) (A1 : Option Addr) (c1 : Nat) (S : List Int) (A2 : Option Addr) (c2 : Nat) (M : List Int) (keep turn : Int) (hc1 : S.length ≤ c1) (hc2 : M.length ≤ c2) (hS : (Kd.int .u8).C w A1 S.length S) (hM : (Kd.int .u8).C w A2 M.length M) (hs : S.length ≤ 1048576) (hm : M.length ≤ 1048576) (hby : ∀ x ∈ M, 0 ≤ x ∧ x ≤ 255) :
    Calls Try.prog 21 #[.agg #[.int .i64 room, .slice A1 S.length c1, .slice A2 M.length c2], .int .i64 keep, .int .i64 turn] w fun e w' => ∃ v1 v2 : Value, e = .returned (.agg #[.int .i64 room, v1, v2]) ∧ Kd.R (Kd.int .u8) 5 w' w.heap.size (fun _ => True) v1 (S ++ crashM M 0 keep turn) ∧ Kd.R (Kd.int .u8) 5 w' w.heap.size (fun _ => True) v2 [] ∧ Below w.heap.size w w' := by
  have HC1 := Lib.hid hc1; have HS := Lib.hid hS
  clear hS hc1
  obtain ⟨n, hn⟩ : ∃ n, n = crashN M 0 keep := ⟨_, rfl⟩
  have hn1 : (n : Int) = min (max keep 0) M.length := by rw [hn]; unfold crashN; omega
  have hnm : n ≤ M.length := by omega
  have HN := Lib.hid hn; have HN1 := Lib.hid hn1
  have hcutK : 0 ≤ keep → keep < (M.length : Int) → ∀ W : World, (Instr.slice 22 (.slice A2 M.length c2) none (some (.int .i64 keep)) none).run Try.prog W = .ok (.slice A2 n c2) W := fun h0 h1 W => by
    obtain ⟨R, hR, _, _, hcut⟩ := head_cut (P := Try.prog) (d := Kd.int .u8) 22 5 .i64 Try.underlying22 info5 hM hc2 keep n (by omega) hnm
    have e : R.length = n := by rw [hR, List.length_take]; omega
    rw [hcut, e]
  have hcut0 : ∀ W : World, (Instr.slice 22 (.slice A2 M.length c2) none (some (.int .i64 0)) none).run Try.prog W = .ok (.slice A2 0 c2) W := fun W => by
    obtain ⟨R, hR, _, _, hcut⟩ := head_cut (P := Try.prog) (d := Kd.int .u8) 22 5 .i64 Try.underlying22 info5 hM hc2 0 0 (by omega) (by omega)
    have e : R.length = 0 := by rw [hR, List.length_take]; omega
    rw [hcut, e]
  have HM := Lib.hid (Kd.C_take hM hnm)
  clear hM hn hn1
  go_enter Try.func21, Try.ntmps21
  go_upto_region 1 with fail
  have hb0 := two_below w (.cells #[.int .i64 room, .slice A1 S.length c1, .slice A2 M.length c2] 38) (.cells #[.int .i64 0, .slice none 0 0, .slice none 0 0] 38)
  have x0 := two_blk w (.cells #[.int .i64 room, .slice A1 S.length c1, .slice A2 M.length c2] 38) #[.int .i64 0, .slice none 0 0, .slice none 0 0]
  have x1 : ((w.alloc (.cells #[.int .i64 room, .slice A1 S.length c1, .slice A2 M.length c2] 38)).alloc (.cells #[.int .i64 0, .slice none 0 0, .slice none 0 0] 38)).heap[w.heap.size]? = some (.cells #[.int .i64 room, .slice A1 S.length c1, .slice A2 M.length c2] 38 (0, 0)) :=
    (((Below.refl (w.heap.size + 1) (w.alloc (.cells #[.int .i64 room, .slice A1 S.length c1, .slice A2 M.length c2] 38))).alloc (by simp) _).block w.heap.size (by omega)).trans (heap_alloc_new w _)
  have hz : ((w.alloc (.cells #[.int .i64 room, .slice A1 S.length c1, .slice A2 M.length c2] 38)).alloc (.cells #[.int .i64 0, .slice none 0 0, .slice none 0 0] 38)).heap.size = w.heap.size + 2 := by simp
  generalize ((w.alloc (.cells #[.int .i64 room, .slice A1 S.length c1, .slice A2 M.length c2] 38)).alloc (.cells #[.int .i64 0, .slice none 0 0, .slice none 0 0] 38)) = W0 at *
  have X0 := Lib.hid x0; have X1 := Lib.hid x1; have HB0 := Lib.hid hb0; have HZ := Lib.hid hz
  have y2 : W0.cell? ⟨w.heap.size, 2, none⟩ = some (.slice A2 M.length c2) := blk_cell x1 2
  have yf2 := blk_frozen x1 2
  clear x0 x1 hb0 hz
  obtain ⟨q, hq⟩ : ∃ q, q = max keep 0 := ⟨_, rfl⟩
  have HQ := Lib.hid hq
  go_upto_if 11 with fail
  go_cut [1] (fun t wx => t = .int .i64 q ∧ wx = W0)
  case first =>
    by_cases hk : keep < 0
    · obtain rfl : q = 0 := by omega
      clear hq HQ
      go_wp2
      go_meet
      case rel => exact ⟨rfl, rfl⟩
    · obtain rfl : q = keep := by omega
      clear hq HQ
      go_wp2
      go_meet
      case rel => exact ⟨rfl, rfl⟩
  case rest =>
    obtain ⟨rfl, rfl⟩ := hcut
    have hq0 : 0 ≤ q := by omega
    clear hq
    go_upto_if 16 with fail
    go_cut [1] (fun _ wx => wx.heap.size = w.heap.size + 2 ∧ Below w.heap.size w wx ∧ wx.heap[w.heap.size + 1]? = some (.cells #[.int .i64 0, .slice none 0 0, .slice none 0 0] 38 (0, 0)) ∧ wx.heap[w.heap.size]? = some (.cells #[.int .i64 room, .slice A1 S.length c1, .slice A2 n c2] 38 (0, 0)))
    case first =>
      have hn2 := HN1.out
      have hq := HQ.out
      by_cases hk : q < (M.length : Int)
      · have hcutQ : ∀ W : World, (Instr.slice 22 (.slice A2 M.length c2) none (some (.int .i64 q)) none).run Try.prog W = .ok (.slice A2 n c2) W := fun W => by
          by_cases hk0 : keep < 0
          · obtain rfl : q = 0 := by omega
            obtain rfl : n = 0 := by omega
            exact hcut0 W
          · obtain rfl : q = keep := by omega
            exact hcutK hq0 hk W
        clear hn2 hq hcutK hcut0
        go_wp2
        go_meet
        case rel => exact ⟨by simp [HZ.out], below_set HB0.out (Nat.le_refl _), (set_other _ (by omega)).trans X0.out, heap_setCell_same _ _ 2 _ 38 _ X1.out⟩
      · obtain rfl : n = M.length := by omega
        clear hn2 hq
        go_wp2
        go_meet
        case rel => exact ⟨HZ.out, HB0.out, X0.out, X1.out⟩
    case rest =>
      obtain ⟨z1, z2, z3, z4⟩ := hcut
      clear hcutK hcut0 X0 X1 HB0 HZ y2 yf2 HQ hq0
      obtain ⟨l, hl⟩ : ∃ l, l = M.take n := ⟨_, rfl⟩
      have hln : l.length = n := by rw [hl, List.length_take]; omega
      have HM2 := HM.out
      rw [← hl] at HM2
      have HMl := Lib.hid HM2
      clear HM HM2
      have HL := Lib.hid hl
      clear hl
      obtain rfl := hln
      rename World => w1
      have hbw : Below w.heap.size w (w1.alloc (.cells #[] 5)) := z2.alloc (by omega) _
      have hzw : (w1.alloc (.cells #[] 5)).heap.size = w.heap.size + 3 := by simp [z1]
      have y0 : (w1.alloc (.cells #[] 5)).heap[w.heap.size + 1]? = some (.cells #[.int .i64 0, .slice none 0 0, .slice none 0 0] 38 (0, 0)) := (((Below.refl (w.heap.size + 2) w1).alloc (by omega) _).block (w.heap.size + 1) (by omega)).trans z3
      have y1 : (w1.alloc (.cells #[] 5)).heap[w.heap.size]? = some (.cells #[.int .i64 room, .slice A1 S.length c1, .slice A2 l.length c2] 38 (0, 0)) := (((Below.refl (w.heap.size + 2) w1).alloc (by omega) _).block w.heap.size (by omega)).trans z4
      obtain ⟨A4, c4, w3, hr3, R3, G3, at3⟩ := append_u8 (w1.alloc (.cells #[] 5)) w.heap.size _ [] (empty_row w1 w.heap.size (by omega)) A2 c2 l (Kd.C_below HMl.out hbw) (by simp; omega) (by omega)
      simp only [List.length_nil, Nat.zero_add, List.nil_append] at hr3 R3 at3
      have hbw3 : Below w.heap.size w w3 := hbw.grown G3 (by omega) (fun k hk => by
        have hk' : k = w1.heap.size := by simpa [Value.ownBlock] using hk.symm
        omega)
      have v0 : w3.heap[w.heap.size + 1]? = _ := (G3.block (w.heap.size + 1) (by omega) (fun e => by
        have hk' : w.heap.size + 1 = w1.heap.size := by simpa [Value.ownBlock] using e
        omega)).trans y0
      have v1 : w3.heap[w.heap.size]? = _ := (G3.block w.heap.size (by omega) (fun e => by
        have hk' : w.heap.size = w1.heap.size := by simpa [Value.ownBlock] using e
        omega)).trans y1
      have k2 : (w1.alloc (.cells #[] 5)).cell? ⟨w.heap.size, 2, none⟩ = some (.slice A2 l.length c2) := blk_cell y1 2
      have r2 : w3.cell? ⟨w.heap.size, 2, none⟩ = some (.slice A2 l.length c2) := blk_cell v1 2
      have rf2 := blk_frozen v1 2
      have HR3 := Lib.hid hr3
      clear hr3 G3 at3 hbw hzw y0 y1 z1 z2 z3 z4
      have R4 : Row (w3.setCell ⟨w.heap.size, 2, none⟩ (.slice A4 l.length c4)) w.heap.size 5 (.slice A4 l.length c4) (nums .u8 l) := R3.move fun k hk => by
        obtain ⟨_, _, cur, h⟩ := R3.lt k hk
        exact set_other _ (blk_ne h v1 (by decide))
      have T0 : (w3.setCell ⟨w.heap.size, 2, none⟩ (.slice A4 l.length c4)).heap[w.heap.size + 1]? = _ := (set_other _ (by omega)).trans v0
      have T1 : (w3.setCell ⟨w.heap.size, 2, none⟩ (.slice A4 l.length c4)).heap[w.heap.size]? = some (.cells #[.int .i64 room, .slice A1 S.length c1, .slice A4 l.length c4] 38 (0, 0)) := heap_setCell_same w3 w.heap.size 2 _ 38 (.slice A4 l.length c4) v1
      have B4 := below_set (g := w.heap.size) (j := 2) (v := .slice A4 l.length c4) hbw3 (Nat.le_refl _)
      have HT0 := Lib.hid T0; have HT1 := Lib.hid T1; have HB4 := Lib.hid B4; have HR4 := Lib.hid R4
      clear T0 T1 B4 R4 v0 v1 R3 hbw3
      go_upto_region 7 with (at_builtin; refine wpList_append_run rfl _ _ 22 rfl _ _ _ rfl rfl HR3.out ?_)
      generalize w3.setCell ⟨w.heap.size, 2, none⟩ (.slice A4 l.length c4) = W4 at *
      clear k2 r2 rf2 HR3
      have fin : ∀ (W : World) (L : List Int), L.length = l.length → L = crashM M 0 keep turn → Row W w.heap.size 5 (.slice A4 l.length c4) (nums .u8 L) → Below w.heap.size w W → Calls Try.prog 18 #[.agg #[.int .i64 room, .slice A1 S.length c1, .slice A4 l.length c4]] W fun e w' => ∃ v1 v2 : Value, e = .returned (.agg #[.int .i64 room, v1, v2]) ∧ Kd.R (Kd.int .u8) 5 w' W.heap.size (fun _ => True) v1 (S ++ crashM M 0 keep turn) ∧ Kd.R (Kd.int .u8) 5 w' W.heap.size (fun _ => True) v2 [] ∧ Below W.heap.size W w' := fun W L hL hLM hR hBW => by
        rw [← hL] at hR ⊢
        obtain ⟨A', c', hv, hc, hC⟩ := hR.reads
        have hA' : A' = A4 ∧ c' = c4 := by injection hv with q1 _ q3; exact ⟨q1.symm, q3.symm⟩
        obtain ⟨rfl, rfl⟩ := hA'
        refine (PDiskPlays.tidemillref06_Sync.calls room A1 c1 S A' c' L room (S ++ L) [] W (Kd.C_below HS.out hBW) HC1.out hC hc (rsync_f room S L hs (by omega))).mono ?_
        rintro e w' ⟨v1, v2, rfl, R1, R2, B⟩
        exact ⟨v1, v2, rfl, by rw [← hLM]; exact Kd.R_mono R1 (fun _ _ => trivial), Kd.R_mono R2 (fun _ _ => trivial), B⟩
      have FIN := Lib.hid fin
      clear fin
      by_cases hc : 0 < l.length ∧ 0 ≤ turn ∧ turn < 8
      · obtain ⟨g1, g2, g3⟩ := hc
        obtain ⟨t, rfl⟩ := Int.eq_ofNat_of_zero_le g2
        have ht8 : t < 8 := by omega
        have HG1 := Lib.hid g1
        go_wp2_with fail
        go_loopw [8, 9] (fun b i wr => ∃ k : Nat, k ≤ t ∧ i = .int .i64 k ∧ b = .int .u8 ((2 ^ k : Nat) : Int) ∧ wr = W4) (fun _ i _ => t - (intOf i).toNat)
        case atStart => exact ⟨0, Nat.zero_le _, rfl, rfl, rfl⟩
        case round =>
          obtain ⟨k, hk, rfl, rfl, rfl⟩ := hrel
          by_cases hlt : k < t
          · have hlti : (k : Int) < (t : Int) := by omega
            have hb64 : 2 ^ k ≤ 64 := by
              have := Nat.pow_le_pow_right (n := 2) (by omega) (show k ≤ 6 by omega)
              omega
            have hb2 : 2 ^ (k + 1) = 2 ^ k * 2 := Nat.pow_succ 2 k
            have HB2 := Lib.hid hb2
            clear hb2
            generalize hb : 2 ^ k = b at *
            have hb64i : (b : Int) ≤ 64 := by omega
            clear hb
            go_wp2_with fail
            go_roundw
            case rel => exact ⟨k + 1, by omega, by go_num, by rw [HB2.out]; go_num, by first | rfl | trivial⟩
            case measure => simp [intOf]; omega
          · obtain rfl : k = t := by omega
            have hlp : l.length - 1 < l.length := by omega
            obtain ⟨x, hx⟩ : ∃ x, x = l.getD (l.length - 1) 0 := ⟨_, rfl⟩
            have hxl : l[l.length - 1]? = some x := by rw [hx, List.getD_eq_getElem?_getD, List.getElem?_eq_getElem hlp]; rfl
            have hxm : x ∈ M := by
              have h1 : x ∈ l := List.mem_of_getElem? hxl
              rw [HL.out] at h1
              exact List.mem_of_mem_take h1
            obtain ⟨x0, x1⟩ := hby x hxm
            obtain ⟨y, rfl⟩ := Int.eq_ofNat_of_zero_le x0
            obtain ⟨g5, hA5, hcell, hfz⟩ := HR4.out.cellAt rfl (l.length - 1) (.int .u8 y) (by simp [nums, hxl])
            subst hA5
            have hy : y < 256 := by omega
            have hLM : l.set (l.length - 1) ((y ^^^ 2 ^ k : Nat) : Int) = crashM M 0 keep (k : Int) := by
              unfold crashM
              have hcl : crashL M 0 keep = l := by unfold crashL; rw [← HN.out, Nat.zero_add]; exact HL.out.symm
              rw [hcl, ← HN.out, if_pos ⟨HG1.out, by omega, by omega⟩, ← hx, Int.toNat_natCast, Int.toNat_natCast]
            have r5 : Row (wr.drew.setCell ⟨g5, l.length - 1, none⟩ (.int .u8 ((y ^^^ 2 ^ k : Nat) : Int))) w.heap.size 5 (.slice (some ⟨g5, 0, none⟩) l.length c4) (nums .u8 (l.set (l.length - 1) ((y ^^^ 2 ^ k : Nat) : Int))) := by
              have := (HR4.out.move (w1 := wr.drew) fun _ _ => rfl).set rfl (l.length - 1) (by rw [nums_length]; omega) (.int .u8 ((y ^^^ 2 ^ k : Nat) : Int))
              unfold nums at this ⊢
              rw [List.map_set]; exact this
            obtain ⟨hg50, _, cur, hcur⟩ := HR4.out.lt g5 rfl
            have b5 : Below w.heap.size w (wr.drew.setCell ⟨g5, l.length - 1, none⟩ (.int .u8 ((y ^^^ 2 ^ k : Nat) : Int))) := below_set HB4.out.drew hg50
            have t5 : (wr.drew.setCell ⟨g5, l.length - 1, none⟩ (.int .u8 ((y ^^^ 2 ^ k : Nat) : Int))).heap[w.heap.size + 1]? = some (.cells #[.int .i64 0, .slice none 0 0, .slice none 0 0] 38 (0, 0)) := (set_other _ (Ne.symm (blk_ne hcur HT0.out (by decide)))).trans HT0.out
            have u5 : (wr.drew.setCell ⟨g5, l.length - 1, none⟩ (.int .u8 ((y ^^^ 2 ^ k : Nat) : Int))).heap[w.heap.size]? = some (.cells #[.int .i64 room, .slice A1 S.length c1, .slice (some ⟨g5, 0, none⟩) l.length c4] 38 (0, 0)) := (set_other _ (Ne.symm (blk_ne hcur HT1.out (by decide)))).trans HT1.out
            have f5 := FIN.out _ _ List.length_set hLM r5 b5
            have HU5 := Lib.hid u5; have HT5 := Lib.hid t5; have HB5 := Lib.hid b5; have F5 := Lib.hid f5
            clear r5 b5 t5 u5 f5 hLM hcur hx hxl hxm x0 x1 FIN
            have o2 : wr.cell? ⟨w.heap.size, 2, none⟩ = some (.slice (some ⟨g5, 0, none⟩) l.length c4) := blk_cell HT1.out 2
            have hl1 : l.length ≤ 1048576 := by omega
            have s1 : IntKind.i64.wrap ((l.length : Int) - 1) = (l.length : Int) - 1 := IntWalk.i64_in _ (by omega)
            have s2 : 0 ≤ (l.length : Int) - 1 := by omega
            have s3 : (l.length : Int) - 1 < (l.length : Int) := by omega
            have s4 : ((l.length : Int) - 1).toNat = l.length - 1 := by omega
            have s5 : 1 ≤ (l.length : Int) := by omega
            have s6 : 0 < (l.length : Int) := by omega
            have s7 : 0 < l.length := by omega
            clear s6 s7
            go_upto_region 13 with fail
            go_still_tail 13, (by kernel_rfl)
            rw [xor8c y k hy ht8]
            change wpList _ _ _ _ _ wr.drew
            have hcell' : wr.drew.cell? ⟨g5, l.length - 1, none⟩ = some (.int .u8 y) := hcell
            have hfz' : wr.drew.frozen? ⟨g5, l.length - 1, none⟩ = false := hfz
            clear o2
            generalize ((y ^^^ 2 ^ k : Nat) : Int) = z at *
            generalize wr.drew = W5 at *
            have s0 : (W5.setCell ⟨g5, l.length - 1, none⟩ (.int .u8 z)).cell? ⟨w.heap.size, 0, none⟩ = some (.int .i64 room) := blk_cell HU5.out 0
            have q1 : (W5.setCell ⟨g5, l.length - 1, none⟩ (.int .u8 z)).cell? ⟨w.heap.size, 1, none⟩ = some (.slice A1 S.length c1) := blk_cell HU5.out 1
            have q2 : (W5.setCell ⟨g5, l.length - 1, none⟩ (.int .u8 z)).cell? ⟨w.heap.size, 2, none⟩ = some (.slice (some ⟨g5, 0, none⟩) l.length c4) := blk_cell HU5.out 2
            have hsz : w.heap.size + 2 ≤ (W5.setCell ⟨g5, l.length - 1, none⟩ (.int .u8 z)).heap.size := (Array.getElem?_eq_some_iff.1 HT5.out).1
            have HSZ5 := Lib.hid hsz
            clear hsz
            go_wp2_with fail
            refine F5.out.mono ?_
            rintro e w9 ⟨v1, v2, rfl, R1, R2, B9⟩
            have t0 : w9.heap[w.heap.size + 1]? = some (.cells #[.int .i64 0, .slice none 0 0, .slice none 0 0] 38 (0, 0)) := (B9.block _ (by have := HSZ5.out; omega)).trans HT5.out
            obtain ⟨E1, e1, rfl⟩ := Kd.R_slice R1
            obtain ⟨E2, e2, rfl⟩ := Kd.R_slice R2
            have hfin := rsync_end HSZ5.out room _ _ R1 R2 (below_step HB5.out B9)
            simp only [List.length_append, List.length_nil] at hfin
            have p0 : w9.cell? ⟨w.heap.size + 1, 0, none⟩ = some (.int .i64 0) := blk_cell t0 0
            have p1 : w9.cell? ⟨w.heap.size + 1, 1, none⟩ = some (.slice none 0 0) := blk_cell t0 1
            have p2 : w9.cell? ⟨w.heap.size + 1, 2, none⟩ = some (.slice none 0 0) := blk_cell t0 2
            have pf0 := blk_frozen t0 0; have pf1 := blk_frozen t0 1; have pf2 := blk_frozen t0 2
            have HFin := Lib.hid hfin; have HP := Lib.hid (put3 t0)
            clear hfin t0 R1 R2 B9
            go_wp2_with fail
            exact bodyPost_ret (results_cell_row rfl _ _ (w.heap.size + 1) 38 _ (0, 0) _ rfl (HP.out _ _ _) Try.underlying38 rfl (by kernel_rfl)) rfl ⟨_, _, rfl, HFin.out⟩
      · have hLM : l = crashM M 0 keep turn := by
          unfold crashM; rw [if_neg (by rw [← HN.out]; exact hc)]; unfold crashL; rw [← HN.out, Nat.zero_add]; exact HL.out
        have s0 : W4.cell? ⟨w.heap.size, 0, none⟩ = some (.int .i64 room) := blk_cell HT1.out 0
        have s1 : W4.cell? ⟨w.heap.size, 1, none⟩ = some (.slice A1 S.length c1) := blk_cell HT1.out 1
        have s2 : W4.cell? ⟨w.heap.size, 2, none⟩ = some (.slice A4 l.length c4) := blk_cell HT1.out 2
        have F4 := Lib.hid (FIN.out W4 l rfl hLM HR4.out HB4.out)
        have hsz : w.heap.size + 2 ≤ W4.heap.size := (Array.getElem?_eq_some_iff.1 HT0.out).1
        have HSZ := Lib.hid hsz
        clear FIN hLM hsz
        by_cases g1 : 0 < l.length
        · by_cases g2 : 0 ≤ turn
          · have g3 : ¬ turn < 8 := fun h => hc ⟨g1, g2, h⟩
            clear hc
            go_wp2_with fail
            refine F4.out.mono ?_
            rintro e w9 ⟨v1, v2, rfl, R1, R2, B9⟩
            have t0 : w9.heap[w.heap.size + 1]? = some (.cells #[.int .i64 0, .slice none 0 0, .slice none 0 0] 38 (0, 0)) := (B9.block _ (by have := HSZ.out; omega)).trans HT0.out
            obtain ⟨E1, e1, rfl⟩ := Kd.R_slice R1
            obtain ⟨E2, e2, rfl⟩ := Kd.R_slice R2
            have hfin := rsync_end HSZ.out room _ _ R1 R2 (below_step HB4.out B9)
            simp only [List.length_append, List.length_nil] at hfin
            have p0 : w9.cell? ⟨w.heap.size + 1, 0, none⟩ = some (.int .i64 0) := blk_cell t0 0
            have p1 : w9.cell? ⟨w.heap.size + 1, 1, none⟩ = some (.slice none 0 0) := blk_cell t0 1
            have p2 : w9.cell? ⟨w.heap.size + 1, 2, none⟩ = some (.slice none 0 0) := blk_cell t0 2
            have pf0 := blk_frozen t0 0; have pf1 := blk_frozen t0 1; have pf2 := blk_frozen t0 2
            have HFin := Lib.hid hfin; have HP := Lib.hid (put3 t0)
            clear hfin t0 R1 R2 B9
            go_wp2_with fail
            exact bodyPost_ret (results_cell_row rfl _ _ (w.heap.size + 1) 38 _ (0, 0) _ rfl (HP.out _ _ _) Try.underlying38 rfl (by kernel_rfl)) rfl ⟨_, _, rfl, HFin.out⟩
          · clear hc
            go_wp2_with fail
            refine F4.out.mono ?_
            rintro e w9 ⟨v1, v2, rfl, R1, R2, B9⟩
            have t0 : w9.heap[w.heap.size + 1]? = some (.cells #[.int .i64 0, .slice none 0 0, .slice none 0 0] 38 (0, 0)) := (B9.block _ (by have := HSZ.out; omega)).trans HT0.out
            obtain ⟨E1, e1, rfl⟩ := Kd.R_slice R1
            obtain ⟨E2, e2, rfl⟩ := Kd.R_slice R2
            have hfin := rsync_end HSZ.out room _ _ R1 R2 (below_step HB4.out B9)
            simp only [List.length_append, List.length_nil] at hfin
            have p0 : w9.cell? ⟨w.heap.size + 1, 0, none⟩ = some (.int .i64 0) := blk_cell t0 0
            have p1 : w9.cell? ⟨w.heap.size + 1, 1, none⟩ = some (.slice none 0 0) := blk_cell t0 1
            have p2 : w9.cell? ⟨w.heap.size + 1, 2, none⟩ = some (.slice none 0 0) := blk_cell t0 2
            have pf0 := blk_frozen t0 0; have pf1 := blk_frozen t0 1; have pf2 := blk_frozen t0 2
            have HFin := Lib.hid hfin; have HP := Lib.hid (put3 t0)
            clear hfin t0 R1 R2 B9
            go_wp2_with fail
            exact bodyPost_ret (results_cell_row rfl _ _ (w.heap.size + 1) 38 _ (0, 0) _ rfl (HP.out _ _ _) Try.underlying38 rfl (by kernel_rfl)) rfl ⟨_, _, rfl, HFin.out⟩
        · clear hc
          go_wp2_with fail
          refine F4.out.mono ?_
          rintro e w9 ⟨v1, v2, rfl, R1, R2, B9⟩
          have t0 : w9.heap[w.heap.size + 1]? = some (.cells #[.int .i64 0, .slice none 0 0, .slice none 0 0] 38 (0, 0)) := (B9.block _ (by have := HSZ.out; omega)).trans HT0.out
          obtain ⟨E1, e1, rfl⟩ := Kd.R_slice R1
          obtain ⟨E2, e2, rfl⟩ := Kd.R_slice R2
          have hfin := rsync_end HSZ.out room _ _ R1 R2 (below_step HB4.out B9)
          simp only [List.length_append, List.length_nil] at hfin
          have p0 : w9.cell? ⟨w.heap.size + 1, 0, none⟩ = some (.int .i64 0) := blk_cell t0 0
          have p1 : w9.cell? ⟨w.heap.size + 1, 1, none⟩ = some (.slice none 0 0) := blk_cell t0 1
          have p2 : w9.cell? ⟨w.heap.size + 1, 2, none⟩ = some (.slice none 0 0) := blk_cell t0 2
          have pf0 := blk_frozen t0 0; have pf1 := blk_frozen t0 1; have pf2 := blk_frozen t0 2
          have HFin := Lib.hid hfin; have HP := Lib.hid (put3 t0)
          clear hfin t0 R1 R2 B9
          go_wp2_with fail
          exact bodyPost_ret (results_cell_row rfl _ _ (w.heap.size + 1) 38 _ (0, 0) _ rfl (HP.out _ _ _) Try.underlying38 rfl (by kernel_rfl)) rfl ⟨_, _, rfl, HFin.out⟩
end Go.Proofs.Ytmphlgihmggoaaa.DiskM
