import Derived.Test.YtanhibhcmfmeeaaSeB
import Derived.Deep.DrawnRows
import Derived.Deep.RegionLaw
import Derived.Deep.RegionWith
import Derived.Lib.SliceRun
/- Put where there is no room. -/
namespace Go.Proofs.Ytanhibhcmfmeeaa.Se
open Go.RowKit Go.Proofs.YtanhibhcmfmeeaaW.PrintWords Go.Proofs.YtanhibhcmfmeeaaW.PrintMore Go.Proofs.Ytanhibhcmfmeeaa.Cut Go.Proofs.Ytanhibhcmfmeeaa.Fr Go.Proofs.Ytanhibhcmfmeeaa.SlK Go.Proofs.Ytanhibhcmfmeeaa.Flo
set_option maxRecDepth 100000 in
set_option maxHeartbeats 8000000 in
theorem put_full {w : World} {B s : Nat} {room gap : Int} {l : L4} {v : Value} (h : Own w B s room gap l v) (key time val : Int) (ht : mayT time = true) (hh : hits gap key time l = []) (hf : room ≤ (l.length : Int)) :
    Calls Try.prog 40 #[.pointer (some ⟨s, 0, none⟩), .int .i64 key, .int .i64 time, .int .i64 val] w fun e w' => e = .returned (.tuple #[.slice none 0 0, .int .i64 3]) ∧ Below w.heap.size w w' := by
  have hm := may_calls time w
  rw [ht] at hm
  have hfi := find_calls (h.below (below_drew (Below.refl w.heap.size w))) key time ht
  unfold FindP at hfi
  rw [hh] at hfi
  obtain ⟨c0, c1, c2⟩ := h.cells
  obtain ⟨A, c, rfl, hc, hcl⟩ := row_cells h.ses
  have hg : decide (room ≤ (l.length : Int)) = true := decide_eq_true hf
  obtain ⟨n, hn⟩ : ∃ n, n = l.length := ⟨_, rfl⟩
  rw [← hn] at hc c2 hg
  clear h hn hcl c1 hh hf ht
  go_enter Try.func40, Try.ntmps40
  go_upto_region 5 with ((with_reducible refine hm.mono ?_); rintro e w1 ⟨rfl, rfl⟩)
  rename World => w
  clear hm
  go_cut [24] (fun u wx => u = .bool true ∧ Below w.heap.size w wx)
  case first =>
    go_region_held3 (fun V => V.cell? ⟨s, 2, none⟩ = some (.slice A n c) ∧ V.cell? ⟨s, 0, none⟩ = some (.int .i64 room)) (go_keep)
      (first
      | (go_at_call 37; (with_reducible refine hfi.mono ?_); rintro e w4 ⟨u, rfl, hR, hB4⟩; obtain ⟨A4, c4, rfl, _, _⟩ := Kd.R_reads hR; have k0 := keepB hB4 c2; have k1 := keepB hB4 c0; have HB4 := Lib.hid hB4; clear hB4 hR))
    all_goals
      go_wp2_with fail
      go_meet
      case rel => exact ⟨rfl, below_then (below_drew (Below.refl w.heap.size w)) (Nat.le_refl _) HB4.out⟩
  case rest =>
    obtain ⟨rfl, hBx⟩ := hcut
    have HB := Lib.hid hBx
    clear hBx hfi
    go_wp2_with fail
    go_ret2
    exact ⟨rfl, HB.out⟩
end Go.Proofs.Ytanhibhcmfmeeaa.Se
/- List of sessions. -/
namespace Go.Proofs.Ytanhibhcmfmeeaa.Se
open Go.RowKit Go.Proofs.YtanhibhcmfmeeaaW.PrintWords Go.Proofs.YtanhibhcmfmeeaaW.PrintMore Go.Proofs.Ytanhibhcmfmeeaa.Cut Go.Proofs.Ytanhibhcmfmeeaa.Fr Go.Proofs.Ytanhibhcmfmeeaa.SlK Go.Proofs.Ytanhibhcmfmeeaa.Flo
attribute [local go_sem] run_store_complex
def ListP (w : World) (l : L4) (e : Ending) (w' : World) : Prop := ∃ u, e = .returned u ∧ Row5 w' w.heap.size u (l.map chgT) ∧ Below w.heap.size w w'
set_option maxRecDepth 100000 in
set_option maxHeartbeats 8000000 in
theorem list_calls {w : World} {B s : Nat} {room gap : Int} {l : L4} {v : Value} (h : Own w B s room gap l v) :
    Calls Try.prog 121 #[.pointer (some ⟨s, 0, none⟩)] w (ListP w l) := by
  obtain ⟨c0, c1, c2⟩ := h.cells
  have hfit := h.fits
  obtain ⟨A, c, rfl, hc, hcl⟩ := row_cells h.ses
  obtain ⟨n, hn⟩ : ∃ n, n = l.length := ⟨_, rfl⟩
  rw [← hn] at hc hfit c2
  have HN := Lib.hid hn; have HC := Lib.hid hcl; have HWF := Lib.hid h.wf
  clear h hn hcl c0 c1
  go_enter Try.func121, Try.ntmps121
  go_wp2_with fail
  clear c2
  go_loopw [3, 13] (fun u3 u13 wx => ∃ k : Nat, k ≤ n ∧ u13 = .int .i64 k ∧ Row5 wx w.heap.size u3 ((l.take k).map chgT) ∧ Below w.heap.size w wx) (fun _ u13 _ => n - (intOf u13).toNat)
  case atStart => exact ⟨0, Nat.zero_le _, rfl, Kd.R_nil _ _ _ _ _, Below.refl _ _⟩
  case round =>
    obtain ⟨k, hk, rfl, hR, hB⟩ := hrel
    by_cases hlt : k < n
    · have hlti : (k : Int) < (n : Int) := by omega
      have hk0 : (0 : Int) ≤ (k : Int) := by omega
      have hkl : k < l.length := by rw [← HN.out]; exact hlt
      have hx := List.getElem?_eq_getElem hkl
      have hxw := HWF.out _ (List.getElem_mem hkl)
      obtain ⟨g, rfl, hcell⟩ := HC.out k _ hx
      obtain ⟨p0, p1, p2⟩ := hcell wr hB
      have hts := take_snoc hx
      generalize l[k] = x at hx hxw p0 p1 p2 hts
      obtain ⟨W1, hW1⟩ : ∃ W, W = wr.alloc (sesRow x) := ⟨_, rfl⟩
      have hb1 : Below wr.heap.size wr W1 := by rw [hW1]; exact below_alloc (Below.refl _ _) _
      have hr1 : W1.heap[wr.heap.size]? = some (sesRow x) := by rw [hW1]; exact (Go.MapKept.heap_alloc wr _).1
      obtain ⟨x0, x1, x2⟩ := Bx.of hr1
      have hch := change_calls x hxw W1
      unfold sesV chgV at hch
      have HT := Lib.hid hts; have HW1 := Lib.hid hW1; have HA := Lib.hid (And.intro hR (And.intro hB hb1))
      clear hcell hx hR hB hW1 hb1 hr1 hts hxw HC
      go_upto_region 6 with fail
      rw [← HW1.out]
      go_wp2_with fail
      refine hch.mono ?_
      rintro e w5 ⟨rfl, hB5⟩
      have HB5 := Lib.hid (below_then (below_then HA.out.2.1 HA.out.2.1.size HA.out.2.2) (below_then HA.out.2.1 HA.out.2.1.size HA.out.2.2).size hB5)
      have HR5 := Lib.hid (Kd.R_below (Kd.R_below HA.out.1 HA.out.2.2) hB5)
      have hl40 : (((l.take k).map chgT).length + 1) * 40 ≤ 140737488355328 := by
        have h2 := List.length_take_le k l
        rw [List.length_map]
        omega
      clear hch hB5 HA x0 x1 x2 p0 p1 p2 HW1
      go_wp2_with (first
        | ((with_reducible refine gate_builtin (b := .append) (xs := #[.tmp 17, .tmp 20]) rfl ?_); at_builtin; refine Kd.R_append K5 (w0 := w) w.heap.size rfl (.tmp 17) (.tmp 20) 37 50 (.agg #[.int .i64 0, .int .i64 0, .int .i64 0, .int .i64 0, .bool false]) 40 rfl Try.underlying37 infoC rfl (by decide) (by decide) u3 ((l.take k).map chgT) (chgT x) (encC (chgT x)) (fun _ => True) (fun _ => False) rfl rfl (K5_M _ _ _ _) (fun _ hk => hk.elim) (fun _ _ => trivial) HR5.out HB5.out HB5.out.size hl40 ?_; intro v1 w6 hR6 hb6 hg6 hat6)
        | go_in)
      have hR7 : Row5 w6 w.heap.size v1 ((l.take (k + 1)).map chgT) := by
        rw [HT.out, List.map_append]; exact hR6
      have HF := Lib.hid (And.intro hR7 hb6)
      clear hR6 hb6 hg6 hat6 hR7 HR5 HB5
      go_wp2_with fail
      go_roundw
      case rel => exact ⟨k + 1, by omega, by go_num, HF.out.1, HF.out.2⟩
      case measure => simp [intOf]; omega
    · obtain rfl : k = n := by omega
      rw [HN.out, List.take_length] at hR
      have HF := Lib.hid (And.intro hR hB)
      clear hR hB
      go_wp2_with fail
      go_ret
      exact ⟨u3, rfl, HF.out.1, HF.out.2⟩
end Go.Proofs.Ytanhibhcmfmeeaa.Se
/- The closure of Expire: has a session ended? What has is told. -/
namespace Go.Proofs.Ytanhibhcmfmeeaa.Se
open Go.RowKit Go.Proofs.YtanhibhcmfmeeaaW.PrintWords Go.Proofs.YtanhibhcmfmeeaaW.PrintMore Go.Proofs.Ytanhibhcmfmeeaa.Cut Go.Proofs.Ytanhibhcmfmeeaa.Fr Go.Proofs.Ytanhibhcmfmeeaa.SlK Go.Proofs.Ytanhibhcmfmeeaa.Flo
attribute [local go_sem] run_store_complex
attribute [local go_sem ↓] Go.wp_at_zero Go.wp_at_succ
/-- What the closure has told so far. -/
structure OutO (w : World) (base p : Nat) (u : Value) (ys : List T5) : Prop where
  row : w.heap[p]? = some (.cells #[u] 37 (0, 0))
  own : w.ownsRow base 50 5 u ys.length (ys.flatMap encC)
  base : base ≤ p
def Fo (p : Nat) (u : Value) (k : Nat) : Prop := k = p ∨ some k = u.ownBlock
theorem OutO.lt {w : World} {base p : Nat} {u : Value} {ys : List T5} (h : OutO w base p u ys) (k : Nat) (hk : Fo p u k) : base ≤ k ∧ k < w.heap.size := by
  rcases hk with rfl | hk
  · exact ⟨h.base, (Array.getElem?_eq_some_iff.1 h.row).1⟩
  · exact ⟨own_base h.own k hk.symm, own_lt h.own k hk.symm⟩
theorem OutO.kept {w w' : World} {base p : Nat} {u : Value} {ys : List T5} (h : OutO w base p u ys) (hk : ∀ k, Fo p u k → w'.heap[k]? = w.heap[k]?) : OutO w' base p u ys :=
  ⟨(hk p (.inl rfl)).trans h.row, own_move h.own fun k e => hk k (.inr e.symm), h.base⟩
theorem OutO.below {w w' : World} {base p : Nat} {u : Value} {ys : List T5} (h : OutO w base p u ys) (hb : Below w.heap.size w w') : OutO w' base p u ys := h.kept fun k hk => hb.block k (h.lt k hk).2
theorem OutO.ne {w : World} {base p : Nat} {u : Value} {ys : List T5} (h : OutO w base p u ys) : some p ≠ u.ownBlock := fun e => by
  obtain ⟨c, hc⟩ := own_typed h.own p e.symm
  rw [h.row] at hc
  injection hc with hc
  injection hc with _ hc
  exact absurd hc (by decide)
theorem out_put {W w5 w6 : World} {base p : Nat} {u u' : Value} {ys : List T5} {z : T5} (hO : OutO w5 base p u ys) (hB : Below W.heap.size W w5) (hown : w6.ownsRow base 50 5 u' (ys.length + 1) (ys.flatMap encC ++ encC z)) (hg : w5.grownBy w6 u.ownBlock) (hat : u'.ownBlock = u.ownBlock ∨ ∃ b, u'.ownBlock = some b ∧ w5.heap.size ≤ b) (hr : w6.heap[p]? = some (.cells #[u] 37 (0, 0))) :
    OutO (w6.setCell ⟨p, 0, none⟩ u') base p u' (ys ++ [z]) ∧ Mv W (w6.setCell ⟨p, 0, none⟩ u') (Fo p u) (Fo p u') := by
  have hne : ∀ k, u'.ownBlock = some k → k ≠ p := fun k hk e => by
    subst e
    obtain ⟨c, hc⟩ := own_typed hown k hk
    rw [hr] at hc
    injection hc with hc
    injection hc with _ hc
    exact absurd hc (by decide)
  constructor
  · exact ⟨blk_put hr 0 _ rfl, own_move (own_snoc hown) fun k hk => Below.heap_setCell _ ⟨p, 0, none⟩ _ k (hne k hk), hO.base⟩
  · have hM : Mv W w6 (Fo p u) (Fo p u') := by
      refine (Mv.of_below (Fo p u) hB).trans (Mv.of_grown hg (fun k e => .inr e.symm) fun k hk => ?_)
      rcases hk with hk | hk
      · exact .inl (.inl hk)
      · rcases hat with hat | ⟨b, hb, hb2⟩
        · exact .inl (.inr (hat ▸ hk))
        · rw [hb] at hk
          injection hk with hk
          exact .inr (hk ▸ hb2)
    exact mv_set hM (.inl (.inl rfl)) _
def CloP (w : World) (base p : Nat) (u : Value) (b : Bool) (zs : List T5) (e : Ending) (w' : World) : Prop :=
  ∃ u', e = .returned (.bool b) ∧ OutO w' base p u' zs ∧ Mv w w' (Fo p u) (Fo p u')
set_option maxRecDepth 100000 in
set_option maxHeartbeats 8000000 in
theorem clo_no {W : World} {base p1 p2 p3 s : Nat} {gap before : Int} {u : Value} {ys : List T5} (x : S4) (hx : Wf x) (h1 : W.cell? ⟨p1, 0, none⟩ = some (.pointer (some ⟨s, 0, none⟩))) (h2 : W.cell? ⟨p2, 0, none⟩ = some (.int .i64 before)) (hg : W.cell? ⟨s, 1, none⟩ = some (.int .i64 gap)) (hgap : 1 ≤ gap ∧ gap ≤ 1048576) (hO : OutO W base p3 u ys) (he : endedB gap before x = false) :
    Calls Try.prog 45 #[sesV x, .pointer (some ⟨p1, 0, none⟩), .pointer (some ⟨p2, 0, none⟩), .pointer (some ⟨p3, 0, none⟩)] W (CloP W base p3 u false ys) := by
  obtain ⟨V, hV⟩ : ∃ V, V = W.alloc (sesRow x) := ⟨_, rfl⟩
  have hB : Below W.heap.size W V := by rw [hV]; exact below_alloc (Below.refl _ _) _
  have hr : V.heap[W.heap.size]? = some (sesRow x) := by rw [hV]; exact (Go.MapKept.heap_alloc W _).1
  obtain ⟨x0, x1, x2⟩ := Bx.of hr
  have k1 := keepB hB h1
  have k2 := keepB hB h2
  have k3 := keepB hB hg
  have ht := fun V => to_calls x hx V
  have hb1 := hx.2.1; have hb2 := hx.2.2; have hb3 := hgap.1; have hb4 := hgap.2
  have hsum : IntKind.i64.wrap (x.to_ + gap) = x.to_ + gap := by rw [IntKind.wrap_i64]; omega
  have hOV := hO.below hB
  have HV := Lib.hid hV; have HB := Lib.hid hB; have HR := Lib.hid (Bx.of hr); have HO := Lib.hid hOV; have HW := Lib.hid hx
  unfold sesV at ht ⊢
  unfold endedB at he
  clear hV hB hr h1 h2 hg hOV hO hx hgap
  go_enter Try.func45, Try.ntmps45
  go_upto_region 1 with fail
  rw [← HV.out]
  go_cut [6] (fun u6 wx => u6 = .bool false ∧ Below V.heap.size V wx)
  case first =>
    go_region_held3 (fun Z => Z.cell? ⟨W.heap.size, 0, none⟩ = some (.int .i64 x.key) ∧ Z.cell? ⟨W.heap.size, 1, none⟩ = some (.complex .f64 (wd x.fr) (wd x.to_)) ∧ Z.cell? ⟨W.heap.size, 2, none⟩ = some (.int .i64 x.val) ∧ Z.cell? ⟨p1, 0, none⟩ = some (.pointer (some ⟨s, 0, none⟩)) ∧ Z.cell? ⟨s, 1, none⟩ = some (.int .i64 gap) ∧ Z.cell? ⟨p2, 0, none⟩ = some (.int .i64 before)) (go_keep)
      (first
      | (go_at_call 46; (with_reducible refine (ht _).mono ?_); rintro e w4 ⟨rfl, hB4⟩; have HB4 := Lib.hid hB4; have y0 := keepB hB4 x0; have y1 := keepB hB4 x1; have y2 := keepB hB4 x2; have y3 := keepB hB4 k1; have y4 := keepB hB4 k2; have y5 := keepB hB4 k3; clear hB4))
    all_goals
      go_wp2_with fail
      go_meet
      case rel => exact ⟨rfl, below_then (below_drew (Below.refl V.heap.size V)) (Nat.le_refl _) HB4.out⟩
  case rest =>
    obtain ⟨rfl, hBx⟩ := hcut
    rename World => wx
    have hO5 := HO.out.below hBx
    obtain ⟨y0, y1, y2⟩ := HR.out.below hBx
    have HB5 := Lib.hid (below_then HB.out HB.out.size hBx)
    clear hBx ht hsum k1 k2 k3 x0 x1 x2
    have HO5 := Lib.hid hO5
    clear hO5 he
    go_wp2_with fail
    go_ret
    exact ⟨u, rfl, HO5.out, Mv.of_below _ HB5.out⟩
set_option maxRecDepth 100000 in
set_option maxHeartbeats 8000000 in
theorem clo_yes {W : World} {base p1 p2 p3 s : Nat} {gap before : Int} {u : Value} {ys : List T5} (x : S4) (hx : Wf x) (h1 : W.cell? ⟨p1, 0, none⟩ = some (.pointer (some ⟨s, 0, none⟩))) (h2 : W.cell? ⟨p2, 0, none⟩ = some (.int .i64 before)) (hg : W.cell? ⟨s, 1, none⟩ = some (.int .i64 gap)) (hgap : 1 ≤ gap ∧ gap ≤ 1048576) (hO : OutO W base p3 u ys) (hl : ys.length ≤ 1024) (he : endedB gap before x = true) :
    Calls Try.prog 45 #[sesV x, .pointer (some ⟨p1, 0, none⟩), .pointer (some ⟨p2, 0, none⟩), .pointer (some ⟨p3, 0, none⟩)] W (CloP W base p3 u true (ys ++ [goneT x])) := by
  obtain ⟨V, hV⟩ : ∃ V, V = W.alloc (sesRow x) := ⟨_, rfl⟩
  have hB : Below W.heap.size W V := by rw [hV]; exact below_alloc (Below.refl _ _) _
  have hr : V.heap[W.heap.size]? = some (sesRow x) := by rw [hV]; exact (Go.MapKept.heap_alloc W _).1
  obtain ⟨x0, x1, x2⟩ := Bx.of hr
  have k1 := keepB hB h1
  have k2 := keepB hB h2
  have k3 := keepB hB hg
  have ht := fun V => to_calls x hx V
  have hb1 := hx.2.1; have hb2 := hx.2.2; have hb3 := hgap.1; have hb4 := hgap.2
  have hsum : IntKind.i64.wrap (x.to_ + gap) = x.to_ + gap := by rw [IntKind.wrap_i64]; omega
  have hOV := hO.below hB
  have HV := Lib.hid hV; have HB := Lib.hid hB; have HR := Lib.hid (Bx.of hr); have HO := Lib.hid hOV; have HW := Lib.hid hx
  unfold sesV at ht ⊢
  unfold endedB at he
  clear hV hB hr h1 h2 hg hOV hO hx hgap
  go_enter Try.func45, Try.ntmps45
  go_upto_region 1 with fail
  rw [← HV.out]
  go_cut [6] (fun u6 wx => u6 = .bool true ∧ Below V.heap.size V wx)
  case first =>
    go_region_held3 (fun Z => Z.cell? ⟨W.heap.size, 0, none⟩ = some (.int .i64 x.key) ∧ Z.cell? ⟨W.heap.size, 1, none⟩ = some (.complex .f64 (wd x.fr) (wd x.to_)) ∧ Z.cell? ⟨W.heap.size, 2, none⟩ = some (.int .i64 x.val) ∧ Z.cell? ⟨p1, 0, none⟩ = some (.pointer (some ⟨s, 0, none⟩)) ∧ Z.cell? ⟨s, 1, none⟩ = some (.int .i64 gap) ∧ Z.cell? ⟨p2, 0, none⟩ = some (.int .i64 before)) (go_keep)
      (first
      | (go_at_call 46; (with_reducible refine (ht _).mono ?_); rintro e w4 ⟨rfl, hB4⟩; have HB4 := Lib.hid hB4; have y0 := keepB hB4 x0; have y1 := keepB hB4 x1; have y2 := keepB hB4 x2; have y3 := keepB hB4 k1; have y4 := keepB hB4 k2; have y5 := keepB hB4 k3; clear hB4))
    all_goals
      go_wp2_with fail
      go_meet
      case rel => exact ⟨rfl, below_then (below_drew (Below.refl V.heap.size V)) (Nat.le_refl _) HB4.out⟩
  case rest =>
    obtain ⟨rfl, hBx⟩ := hcut
    rename World => wx
    have hO5 := HO.out.below hBx
    obtain ⟨y0, y1, y2⟩ := HR.out.below hBx
    have HB5 := Lib.hid (below_then HB.out HB.out.size hBx)
    clear hBx ht hsum k1 k2 k3 x0 x1 x2
    have d3 : wx.cell? ⟨p3, 0, none⟩ = some u := (blk_cell hO5.row 0).trans rfl
    have hgo := fun V => gone_calls x HW.out V
    unfold sesV goneV at hgo
    have hl40 : (ys.length + 1) * 40 ≤ 140737488355328 := by omega
    have HO5 := Lib.hid hO5
    have hp3 : p3 < wx.heap.size := (Array.getElem?_eq_some_iff.1 hO5.row).1
    have hbs : base ≤ wx.heap.size := by have := hO5.base; omega
    obtain ⟨A, n, c, hu⟩ : ∃ A n c, u = .slice A n c := by
      obtain ⟨A, c, e⟩ := own_slice hO5.own
      exact ⟨A, _, c, e⟩
    subst hu
    clear hO5 he
    go_wp2_with fail
    go_region_law (first
      | (refine step_append_cells (w0 := w5) base (by rfl) (.tmp 17) (.tmp 20) 37 50 (.agg #[.int .i64 0, .int .i64 0, .int .i64 0, .int .i64 0, .bool false]) 5 40 (by rfl) Try.underlying37 infoC rfl (by decide) (by decide) (.slice A n c) ys.length (ys.flatMap encC) (encC (goneT x)) (by rfl) (by rfl) rfl (encC1 (goneT x)) HO6.out.own (Below.refl _ _) HBS.out hl40 ?_; intro u' w6 hown6 _ hg6 hat6; obtain ⟨A', c', rfl⟩ := own_slice hown6; have hr6 := (hg6.block p3 HP3.out HO6.out.ne).trans HO6.out.row; have e6 : w6.cell? ⟨p3, 0, none⟩ = some (.slice A n c) := (blk_cell hr6 0).trans rfl; have f6 := blk_frozen hr6 0; have H6 := Lib.hid (And.intro hown6 (And.intro hg6 (And.intro hat6 hr6))); clear hown6 hg6 hat6 hr6)
      | (go_simp; go_at_call 47; refine (hgo _).mono ?_; rintro e w5 ⟨rfl, hB5⟩; have HB6 := Lib.hid (below_then (below_drew (Below.refl wx.heap.size wx)) (Nat.le_refl _) hB5); have hO6 := HO5.out.below HB6.out; have HO6 := Lib.hid hO6; have HP3 := Lib.hid (Nat.lt_of_lt_of_le hp3 HB6.out.size); have HBS := Lib.hid (Nat.le_trans hbs HB6.out.size); have e3 : w5.cell? ⟨p3, 0, none⟩ = some (.slice A n c) := (blk_cell hO6.row 0).trans rfl; have e4 : ∀ o, (w5.alloc o).cell? ⟨p3, 0, none⟩ = some (.slice A n c) := fun o => keepB (below_alloc (Below.refl _ _) o) e3; clear hB5 hO6))
    all_goals
      go_wp2_with fail
      go_ret
      obtain ⟨q1, q2⟩ := out_put HO6.out (below_then HB5.out HB5.out.size HB6.out) H6.out.1 H6.out.2.1 H6.out.2.2.1 H6.out.2.2.2
      exact ⟨_, rfl, q1, q2⟩
end Go.Proofs.Ytanhibhcmfmeeaa.Se
/- slices.IndexFunc over sessions, with the closure of Expire. -/
namespace Go.Proofs.Ytanhibhcmfmeeaa.Se
open Go.RowKit Go.Proofs.YtanhibhcmfmeeaaW.PrintWords Go.Proofs.YtanhibhcmfmeeaaW.PrintMore Go.Proofs.Ytanhibhcmfmeeaa.Cut Go.Proofs.Ytanhibhcmfmeeaa.Fr Go.Proofs.Ytanhibhcmfmeeaa.SlK Go.Proofs.Ytanhibhcmfmeeaa.Flo
/-- What the closure has captured lies below base. -/
structure Env (w : World) (base p1 p2 s : Nat) (gap before : Int) : Prop where
  c1 : w.cell? ⟨p1, 0, none⟩ = some (.pointer (some ⟨s, 0, none⟩))
  c2 : w.cell? ⟨p2, 0, none⟩ = some (.int .i64 before)
  cg : w.cell? ⟨s, 1, none⟩ = some (.int .i64 gap)
  l1 : p1 < base
  l2 : p2 < base
  ls : s < base
  gap : 1 ≤ gap ∧ gap ≤ 1048576
theorem Env.below {w w' : World} {base p1 p2 s : Nat} {gap before : Int} (h : Env w base p1 p2 s gap before) (hb : Below base w w') : Env w' base p1 p2 s gap before :=
  ⟨(World.cell?_of_block (hb.block _ h.l1)).trans h.c1, (World.cell?_of_block (hb.block _ h.l2)).trans h.c2, (World.cell?_of_block (hb.block _ h.ls)).trans h.cg, h.l1, h.l2, h.ls, h.gap⟩
theorem mv_low {w w' : World} {base p : Nat} {u u' : Value} {ys : List T5} (hO : OutO w base p u ys) (hm : Mv w w' (Fo p u) (Fo p u')) : Below base w w' :=
  hm.below (Below.refl base w) (by have := (hO.lt p (.inl rfl)); omega) fun k hk => (hO.lt k hk).1
def CloQ (w : World) (base p : Nat) (b : Bool) (zs : List T5) (e : Ending) (w' : World) : Prop :=
  ∃ u', e = .returned (.bool b) ∧ OutO w' base p u' zs ∧ Below base w w'
theorem clo_q {W : World} {base p1 p2 p3 s : Nat} {gap before : Int} {u : Value} {ys : List T5} (x : S4) (hx : Wf x) (hE : Env W base p1 p2 s gap before) (hO : OutO W base p3 u ys) (hl : ys.length ≤ 1024) (b : Bool) (he : endedB gap before x = b) :
    Calls Try.prog 45 #[sesV x, .pointer (some ⟨p1, 0, none⟩), .pointer (some ⟨p2, 0, none⟩), .pointer (some ⟨p3, 0, none⟩)] W (CloQ W base p3 b (if b = true then ys ++ [goneT x] else ys)) := by
  cases b with
  | false =>
    refine (clo_no x hx hE.c1 hE.c2 hE.cg hE.gap hO he).mono ?_
    rintro e w' ⟨u', rfl, h1, h2⟩
    exact ⟨u', rfl, h1, mv_low hO h2⟩
  | true =>
    refine (clo_yes x hx hE.c1 hE.c2 hE.cg hE.gap hO hl he).mono ?_
    rintro e w' ⟨u', rfl, h1, h2⟩
    exact ⟨u', rfl, h1, mv_low hO h2⟩
theorem own_low {w w' : World} {base B sz n : Nat} {t : TypeId} {v : Value} {xs : List Value} (h : w.ownsRow B t sz v n xs) (hv : ∀ k, v.ownBlock = some k → k < base) (hb : Below base w w') : w'.ownsRow B t sz v n xs := own_move h fun k hk => hb.block k (hv k hk)
def IxS (w : World) (base p : Nat) (gap before : Int) (l : L4) (e : Ending) (w' : World) : Prop :=
  ∃ r u', e = .returned (.int .i64 r) ∧ Below base w w' ∧ ((r = -1 ∧ (∀ x ∈ l, endedB gap before x = false) ∧ OutO w' base p u' []) ∨ ∃ (i : Nat) (x : S4), r = i ∧ l[i]? = some x ∧ endedB gap before x = true ∧ (∀ j y, j < i → l[j]? = some y → endedB gap before y = false) ∧ OutO w' base p u' [goneT x])
set_option maxRecDepth 100000 in
set_option maxHeartbeats 8000000 in
theorem ixS_calls {w : World} {B base p1 p2 p3 s : Nat} {gap before : Int} {u v : Value} {l : L4} (hown : w.ownsRow B 113 3 v l.length (l.flatMap encS)) (hwf : ∀ x ∈ l, Wf x) (hl : l.length ≤ 1024) (hv : ∀ k, v.ownBlock = some k → k < base) (hE : Env w base p1 p2 s gap before) (hO : OutO w base p3 u []) :
    Calls Try.prog 64 #[v, .func (.func 45) #[] #[.pointer (some ⟨p1, 0, none⟩), .pointer (some ⟨p2, 0, none⟩), .pointer (some ⟨p3, 0, none⟩)]] w (IxS w base p3 gap before l) := by
  obtain ⟨A, c, rfl, hnc, _⟩ := row_cells hown
  obtain ⟨n, hn⟩ : ∃ n, n = l.length := ⟨_, rfl⟩
  have HOW := Lib.hid (fun W (hW : Below base w W) => own_low hown hv hW)
  rw [← hn] at hnc hl ⊢
  have HN := Lib.hid hn; have HW := Lib.hid hwf; have HE := Lib.hid hE; have HO := Lib.hid hO
  clear hown hn hwf hE hO hv
  go_enter Try.func64, Try.ntmps64
  go_wp2_with fail
  go_loopw [8] (fun u8 wx => ∃ (k : Nat) (u' : Value), k ≤ n ∧ u8 = .int .i64 k ∧ (∀ j y, j < k → l[j]? = some y → endedB gap before y = false) ∧ OutO wx base p3 u' [] ∧ Below base w wx) (fun u8 _ => n - (intOf u8).toNat)
  case atStart => exact ⟨0, u, Nat.zero_le _, rfl, fun j y hj => by omega, HO.out, Below.refl _ _⟩
  case round =>
    obtain ⟨k, u', hk, rfl, hno, hO', hB⟩ := hrel
    by_cases hlt : k < n
    · have hlti : (k : Int) < (n : Int) := by omega
      have hk0 : (0 : Int) ≤ (k : Int) := by omega
      have hkl : k < l.length := by rw [← HN.out]; exact hlt
      have hg := List.getElem?_eq_getElem hkl
      have hxw := HW.out _ (List.getElem_mem hkl)
      obtain ⟨A', c', hv', _, hcl⟩ := row_cells (HOW.out wr hB)
      injection hv' with hA hA2 hA3
      subst hA
      obtain ⟨g, rfl, hcell⟩ := hcl k _ hg
      obtain ⟨q0, q1, q2⟩ := hcell wr (Below.refl _ _)
      generalize l[k] = x at hg hxw q0 q1 q2
      have HG := Lib.hid hg; have HNo := Lib.hid hno; have HB := Lib.hid hB
      cases hb : endedB gap before x with
      | true =>
        have hclo := clo_q x hxw (HE.out.below hB) hO' (by decide) true hb
        unfold sesV at hclo
        have HBB := Lib.hid hb
        clear hcl hcell hg hno hB hO' hA2 hA3 hxw hb
        go_wp2_with fail
        refine hclo.mono ?_
        rintro e w4 ⟨u4, rfl, hO4, hB4⟩
        have H4 := Lib.hid (And.intro hO4 (HB.out.trans hB4))
        clear hclo hO4 hB4 q0 q1 q2
        go_wp2_with fail
        go_ret
        exact ⟨k, u4, rfl, H4.out.2, .inr ⟨k, x, rfl, HG.out, HBB.out, HNo.out, H4.out.1⟩⟩
      | false =>
        have hclo := clo_q x hxw (HE.out.below hB) hO' (by decide) false hb
        unfold sesV at hclo
        have HBB := Lib.hid hb
        clear hcl hcell hg hno hB hO' hA2 hA3 hxw hb
        go_wp2_with fail
        refine hclo.mono ?_
        rintro e w4 ⟨u4, rfl, hO4, hB4⟩
        have H4 := Lib.hid (And.intro hO4 (HB.out.trans hB4))
        clear hclo hO4 hB4 q0 q1 q2
        go_wp2_with fail
        go_roundw
        case rel =>
          refine ⟨k + 1, u4, by omega, by go_num, fun j z hj hz => ?_, H4.out.1, H4.out.2⟩
          by_cases hjk : j < k
          · exact HNo.out j z hjk hz
          · obtain rfl : j = k := by omega
            rw [HG.out] at hz
            rw [← Option.some.inj hz]; exact HBB.out
        case measure => simp [intOf]; omega
    · obtain rfl : k = n := by omega
      have H4 := Lib.hid (And.intro hO' (And.intro hB hno))
      clear hB hno hO'
      go_wp2_with fail
      go_ret
      refine ⟨-1, u', rfl, H4.out.2.1, .inl ⟨rfl, fun y hy => ?_, H4.out.1⟩⟩
      obtain ⟨j, hj⟩ := List.getElem?_of_mem hy
      exact H4.out.2.2 j y (by rw [HN.out]; exact (List.getElem?_eq_some_iff.1 hj).1) hj
end Go.Proofs.Ytanhibhcmfmeeaa.Se
/- slices.DeleteFunc over sessions, with the closure of Expire. -/
namespace Go.Proofs.Ytanhibhcmfmeeaa.Se
open Go.RowKit Go.Proofs.YtanhibhcmfmeeaaW.PrintWords Go.Proofs.YtanhibhcmfmeeaaW.PrintMore Go.Proofs.Ytanhibhcmfmeeaa.Cut Go.Proofs.Ytanhibhcmfmeeaa.Fr Go.Proofs.Ytanhibhcmfmeeaa.SlK Go.Proofs.Ytanhibhcmfmeeaa.Flo
open Go.Proofs.Ytanhibhcmfmeeaa.SlD (kept Run)
attribute [local go_sem] run_store_complex
theorem encS_len3 (x : S4) : (encS x).length = 3 := rfl
set_option maxRecDepth 100000 in
theorem zero_ses (w : World) : (zeroValue 113).run Try.prog w = .ok (.agg #[.int .i64 0, .complex .f64 0 0, .int .i64 0]) w := by kernel_rfl
theorem zs_one (k : Nat) : ∀ v ∈ (Builtin.zeroCells (Value.agg #[.int .i64 0, .complex .f64 0 0, .int .i64 0]).cells k).toList, v.oneCell' = true := by
  intro v hv
  have e : (Value.agg #[.int .i64 0, .complex .f64 0 0, .int .i64 0]).cells = #[.int .i64 0, .complex .f64 0 0, .int .i64 0] := by rfl
  rw [e] at hv
  simp only [Builtin.zeroCells, Array.toList_map, List.mem_map] at hv
  obtain ⟨i, _, rfl⟩ := hv
  have h : i % 3 = 0 ∨ i % 3 = 1 ∨ i % 3 = 2 := by omega
  show (#[Value.int .i64 0, .complex .f64 0 0, .int .i64 0][i % 3]!).oneCell' = true
  rcases h with h | h | h <;> rw [h] <;> rfl
theorem zs_len (k : Nat) : (Builtin.zeroCells (Value.agg #[.int .i64 0, .complex .f64 0 0, .int .i64 0]).cells k).toList.length = k * 3 := by
  have e : (Value.agg #[.int .i64 0, .complex .f64 0 0, .int .i64 0]).cells = #[.int .i64 0, .complex .f64 0 0, .int .i64 0] := by rfl
  rw [e]
  simp [Builtin.zeroCells]
theorem run_clear3 (w : World) (ty : TypeId) (b o k c : Nat) (hk : 0 < k) (hc : ∀ j, j < k * 3 → (w.cell? ⟨b, o + j, none⟩).isSome = true) (hf : ∀ j, j < k * 3 → w.frozen? ⟨b, o + j, none⟩ = false) :
    ∃ vs, (Builtin.clear_ #[109] ty #[.slice (some ⟨b, o, none⟩) k c]).run Try.prog w = .ok (.tuple #[]) (w.setCells b o vs) := by
  obtain ⟨zs, hzs⟩ : ∃ zs, zs = (Builtin.zeroCells (Value.agg #[.int .i64 0, .complex .f64 0 0, .int .i64 0]).cells k).toList := ⟨_, rfl⟩
  have hl := zs_len k
  have h1 := zs_one k
  rw [← hzs] at hl h1
  have hst := run_storeCells_cells (P := Try.prog) b o zs 0 w (fun j hj => by rw [hl] at hj; exact hc j hj) (fun j hj => by rw [hl] at hj; exact hf j hj) h1
  simp only [Nat.add_zero] at hst
  obtain ⟨m, rfl⟩ : ∃ m, k = m + 1 := ⟨k - 1, by omega⟩
  refine ⟨zs, ?_⟩
  simp [Builtin.clear_, run_underlying Try.underlying109, ← hzs, hst]
/-- Blocks below base, but for one row's, are kept. -/
structure KB (base : Nat) (row : Option Nat) (w w' : World) : Prop where
  os : w'.os = w.os
  tape : w'.tape = w.tape
  output : w'.output = w.output
  size : w.heap.size ≤ w'.heap.size
  keep : ∀ k, k < base → some k ≠ row → w'.heap[k]? = w.heap[k]?
theorem KB.low {base : Nat} {row : Option Nat} {w w' : World} (h : Below base w w') : KB base row w w' := ⟨h.os, h.tape, h.output, h.size, fun k hk _ => h.block k hk⟩
theorem KB.trans {base : Nat} {row : Option Nat} {w w1 w2 : World} (h : KB base row w w1) (g : KB base row w1 w2) : KB base row w w2 :=
  ⟨g.os.trans h.os, g.tape.trans h.tape, g.output.trans h.output, Nat.le_trans h.size g.size, fun k hk hn => (g.keep k hk hn).trans (h.keep k hk hn)⟩
theorem KB.grown {base : Nat} {row : Option Nat} {w w1 w2 : World} (h : KB base row w w1) (g : w1.grownBy w2 row) (hb : base ≤ w1.heap.size) : KB base row w w2 :=
  h.trans ⟨g.os, g.tape, g.output, g.size, fun k hk hn => g.block k (by omega) hn⟩
theorem Env.kb {w w' : World} {base p1 p2 s : Nat} {gap before : Int} {row : Option Nat} (h : Env w base p1 p2 s gap before) (hb : KB base row w w') (n1 : some p1 ≠ row) (n2 : some p2 ≠ row) (n3 : some s ≠ row) : Env w' base p1 p2 s gap before :=
  ⟨(World.cell?_of_block (hb.keep _ h.l1 n1)).trans h.c1, (World.cell?_of_block (hb.keep _ h.l2 n2)).trans h.c2, (World.cell?_of_block (hb.keep _ h.ls n3)).trans h.cg, h.l1, h.l2, h.ls, h.gap⟩
theorem OutO.grown {w w' : World} {base p g : Nat} {u : Value} {ys : List T5} (h : OutO w base p u ys) (hg : w.grownBy w' (some g)) (hlt : g < base) : OutO w' base p u ys :=
  h.kept fun k hk => hg.block k (h.lt k hk).2 (fun e => by have := (h.lt k hk).1; have := Option.some.inj e; omega)
def endL (gap before : Int) (l : L4) : List T5 := (l.filter (endedB gap before)).map goneT
theorem endL_yes {gap before : Int} {l : L4} {x : S4} (h : endedB gap before x = true) : endL gap before (l ++ [x]) = endL gap before l ++ [goneT x] := by
  unfold endL
  rw [List.filter_append, List.filter_cons_of_pos h, List.filter_nil, List.map_append]; rfl
theorem endL_no {gap before : Int} {l : L4} {x : S4} (h : endedB gap before x = false) : endL gap before (l ++ [x]) = endL gap before l := by
  unfold endL
  rw [List.filter_append, List.filter_cons_of_neg (by rw [h]; decide), List.filter_nil, List.append_nil]
theorem endL_len (gap before : Int) (l : L4) : (endL gap before l).length ≤ l.length := by
  unfold endL
  rw [List.length_map]; exact List.length_filter_le _ _
theorem endL_first {gap before : Int} {l : L4} {i : Nat} {x : S4} (hx : l[i]? = some x) (hp : endedB gap before x = true) (hn : ∀ j y, j < i → l[j]? = some y → endedB gap before y = false) : endL gap before (l.take (i + 1)) = [goneT x] := by
  rw [SlD.take_snoc hx, endL_yes hp]
  have : endL gap before (l.take i) = [] := by
    unfold endL
    rw [List.filter_eq_nil_iff.2, List.map_nil]
    intro y hy
    obtain ⟨j, hj⟩ := List.getElem?_of_mem hy
    rw [List.getElem?_take] at hj
    split at hj
    · rename_i hlt
      rw [hn j y hlt hj]; decide
    · cases hj
  rw [this]; rfl
def DelS (w : World) (B base p : Nat) (gap before : Int) (v : Value) (l : L4) (e : Ending) (w' : World) : Prop :=
  ∃ v' u', e = .returned v' ∧ w'.ownsRow B 113 3 v' (kept (endedB gap before) l).length ((kept (endedB gap before) l).flatMap encS) ∧ OutO w' base p u' (endL gap before l) ∧ KB base v.ownBlock w w' ∧ (v'.ownBlock = v.ownBlock ∨ v'.ownBlock = none)
set_option maxRecDepth 100000 in
set_option maxHeartbeats 16000000 in
theorem delS_calls {w : World} {B base p1 p2 p3 s : Nat} {gap before : Int} {u v : Value} {l : L4} (hown : w.ownsRow B 113 3 v l.length (l.flatMap encS)) (hwf : ∀ x ∈ l, Wf x) (hl : l.length ≤ 1024) (hv : ∀ k, v.ownBlock = some k → k < base) (hE : Env w base p1 p2 s gap before) (hO : OutO w base p3 u []) (n1 : some p1 ≠ v.ownBlock) (n2 : some p2 ≠ v.ownBlock) (n3 : some s ≠ v.ownBlock) :
    Calls Try.prog 44 #[v, .func (.func 45) #[] #[.pointer (some ⟨p1, 0, none⟩), .pointer (some ⟨p2, 0, none⟩), .pointer (some ⟨p3, 0, none⟩)]] w (DelS w B base p3 gap before v l) := by
  have hix := ixS_calls hown hwf hl hv hE hO
  obtain ⟨A, c, rfl, hnc, hcl⟩ := row_cells hown
  have HC := Lib.hid hcl
  obtain ⟨n, hn⟩ : ∃ n, n = l.length := ⟨_, rfl⟩
  have HOL := Lib.hid (fun W (hW : Below base w W) => own_low hown hv hW)
  have hbw : base ≤ w.heap.size := by have := (hO.lt p3 (.inl rfl)); omega
  rw [← hn] at hnc hl hix HOL n1 n2 n3 hv ⊢
  have HN := Lib.hid hn; have HW := Lib.hid hwf; have HE := Lib.hid hE; have HV := Lib.hid hv; have HNE := Lib.hid (And.intro n1 (And.intro n2 n3)); have HBW := Lib.hid hbw
  clear hown hn hwf hE hO hcl hv n1 n2 n3 hbw
  go_enter Try.func44, Try.ntmps44
  go_wp2_with fail
  refine hix.mono ?_
  rintro e w1 ⟨r, u1, rfl, hB, hr⟩
  have HB := Lib.hid hB
  clear hix hB
  rcases hr with ⟨rfl, hno, hO1⟩ | ⟨i0, y0, rfl, hy0, hp0, hno, hO1⟩
  · have hk := SlD.kept_all hno
    have hz : endL gap before l = [] := by
      unfold endL
      rw [List.filter_eq_nil_iff.2, List.map_nil]
      intro y hy; rw [hno y hy]; decide
    have HKP := Lib.hid (And.intro hk (And.intro hz hO1))
    clear hno hk hz hO1
    go_wp2_with fail
    go_ret
    refine ⟨_, u1, rfl, ?_, ?_, KB.low HB.out, .inl rfl⟩
    · rw [HKP.out.1, ← HN.out]
      exact HOL.out w1 HB.out
    · rw [HKP.out.2.1]; exact HKP.out.2.2
  · have hi0 : i0 < n := by rw [HN.out]; exact (List.getElem?_eq_some_iff.1 hy0).1
    have hst := Run.start hy0 hp0 hno
    have hef := endL_first hy0 hp0 hno
    rw [← hef] at hO1
    have HST := Lib.hid (And.intro hst hO1)
    have hne : ((i0 : Int) == -1) = false := beq_eq_false_iff_ne.2 (by omega)
    obtain ⟨g, rfl, _⟩ := HC.out i0 _ hy0
    have hgb : g < base := HV.out g rfl
    have HGB := Lib.hid hgb
    clear hy0 hp0 hno hst HC hef hO1 hgb
    go_wp2_with fail
    go_loopw [5, 6] (fun u5 u6 wx => ∃ (L : L4) (i j : Nat) (u' : Value), u5 = .int .i64 i ∧ u6 = .int .i64 j ∧ i < j ∧ Run (endedB gap before) l L i j ∧ wx.ownsRow B 113 3 (.slice (some ⟨g, 0, none⟩) n c) n (L.flatMap encS) ∧ OutO wx base p3 u' (endL gap before (l.take j)) ∧ KB base (some g) w wx) (fun _ u6 _ => n - (intOf u6).toNat)
    case atStart => exact ⟨l, i0, i0 + 1, u1, rfl, by go_num, by omega, HST.out.1, HOL.out w1 HB.out, HST.out.2, KB.low HB.out⟩
    case round =>
      obtain ⟨L, i, j, u', rfl, rfl, hij, hrun, hrow, hout, hkb⟩ := hrel
      have hjn : j ≤ n := by rw [HN.out]; exact hrun.le.2
      have hLn : n = L.length := by rw [HN.out, hrun.len]
      have HR := Lib.hid hrun; have HRW := Lib.hid hrow; have HG := Lib.hid hkb; have HOUT := Lib.hid hout
      have hbr : base ≤ wr.heap.size := Nat.le_trans HBW.out hkb.size
      clear HST HB
      by_cases hlt : j < n
      · have hlti : (j : Int) < (n : Int) := by omega
        have hil : (i : Int) < (n : Int) := by omega
        have hi0' : (0 : Int) ≤ (i : Int) := by omega
        have hxj : l[j]? = some l[j] := List.getElem?_eq_getElem (by rw [← HN.out]; exact hlt)
        have hxw := HW.out _ (List.getElem_mem (show j < l.length by rw [← HN.out]; exact hlt))
        generalize l[j] = x at hxj hxw
        have hLj : L[j]? = some x := hrun.at.trans hxj
        have hrowL : wr.ownsRow B 113 3 (.slice (some ⟨g, 0, none⟩) n c) L.length (L.flatMap encS) := hLn ▸ hrow
        rw [show Value.slice (some ⟨g, 0, none⟩) n c = Value.slice (some ⟨g, 0, none⟩) L.length c from by rw [hLn]] at hrowL
        obtain ⟨A', c', he, _, hcl⟩ := row_cells hrowL
        obtain ⟨g', hg', hcell⟩ := hcl j x hLj
        subst hg'
        injection he with e1 e2 e3
        injection e1 with e1
        injection e1 with e1
        subst e1 e3
        obtain ⟨q0, q1, q2⟩ := hcell wr (Below.refl _ _)
        obtain ⟨W1, hW1⟩ : ∃ W, W = wr.alloc (sesRow x) := ⟨_, rfl⟩
        have hb1 : Below wr.heap.size wr W1 := by rw [hW1]; exact below_alloc (Below.refl _ _) _
        have hr1 : W1.heap[wr.heap.size]? = some (sesRow x) := by rw [hW1]; exact (Go.MapKept.heap_alloc wr _).1
        obtain ⟨x0, x1, x2⟩ := Bx.of hr1
        have hO1 := hout.below hb1
        have hE1 := (HE.out.kb hkb HNE.out.1 HNE.out.2.1 HNE.out.2.2).below (hb1.mono hbr)
        have hle : (endL gap before (l.take j)).length ≤ 1024 := by
          have h1 := endL_len gap before (l.take j)
          have h2 := List.length_take_le j l
          omega
        have hfo : ¬ Fo p3 u' wr.heap.size := fun e => by have := (hout.lt _ e).2; omega
        have HX := Lib.hid (And.intro hxj (And.intro hfo (And.intro hr1 (And.intro hb1 hO1)))); have HW1 := Lib.hid hW1; have HL := Lib.hid (And.intro hLj hLn); have HBR := Lib.hid hbr
        cases hb : endedB gap before x with
        | true =>
          have hclo := clo_yes x hxw hE1.c1 hE1.c2 hE1.cg hE1.gap hO1 hle hb
          unfold sesV at hclo
          have HBB := Lib.hid hb
          clear hrun hrow hout hkb hxj hxw hLj hrowL hcl hcell e2 hW1 hb1 hr1 hO1 hE1 hle hfo hb hLn hbr
          go_upto_region 8 with fail
          rw [← HW1.out]
          go_wp2_with fail
          refine hclo.mono ?_
          rintro e w4 ⟨u4, rfl, hO4, hM4⟩
          have H4 := Lib.hid (And.intro hO4 ((HX.out.2.2.2.1.mono HBR.out).trans (mv_low HX.out.2.2.2.2 hM4)))
          clear hclo hO4 hM4 q0 q1 q2 x0 x1 x2
          go_wp2_with fail
          go_roundw
          case rel => exact ⟨L, i, j + 1, u4, rfl, by go_num, by omega, HR.out.skip HX.out.1 HBB.out, own_low HRW.out (fun k hk => by rw [← Option.some.inj hk]; exact HGB.out) H4.out.2, by rw [SlD.take_snoc HX.out.1, endL_yes HBB.out]; exact H4.out.1, HG.out.trans (KB.low H4.out.2)⟩
          case measure => simp [intOf]; omega
        | false =>
          have hclo := clo_no x hxw hE1.c1 hE1.c2 hE1.cg hE1.gap hO1 hb
          unfold sesV at hclo
          have HBB := Lib.hid hb
          clear hrun hrow hout hkb hxj hxw hLj hrowL hcl hcell e2 hW1 hb1 hr1 hO1 hE1 hle hfo hb hLn hbr
          go_upto_region 8 with fail
          rw [← HW1.out]
          go_wp2_with fail
          refine hclo.mono ?_
          rintro e w4 ⟨u4, rfl, hO4, hM4⟩
          have hB4 := (HX.out.2.2.2.1.mono HBR.out).trans (mv_low HX.out.2.2.2.2 hM4)
          have hr4 := (hM4.keep _ (Array.getElem?_eq_some_iff.1 HX.out.2.2.1).1 HX.out.2.1).trans HX.out.2.2.1
          obtain ⟨y0, y1, y2⟩ := Bx.of hr4
          have hrow4 := own_low HRW.out (fun k hk => by rw [← Option.some.inj hk]; exact HGB.out) hB4
          obtain ⟨cur, hblk⟩ : ∃ cur : Array Value, w4.heap[g]? = some (.cells cur 113 (0, 0)) := own_typed hrow4 g rfl
          have f0 := blk_frozen hblk (i * 3)
          have f1 := blk_frozen hblk (i * 3 + 1)
          have f2 := blk_frozen hblk (i * 3 + 2)
          have hrowL : w4.ownsRow B 113 3 (.slice (some ⟨g, 0, none⟩) L.length c) L.length (L.flatMap encS) := by
            have := hrow4
            rw [HL.out.2] at this
            exact this
          obtain ⟨A', c', he, _, hcl⟩ := row_cells hrowL
          obtain ⟨g', hg', hcell⟩ := hcl i _ (List.getElem?_eq_getElem (show i < L.length by rw [← HL.out.2]; omega))
          subst hg'
          injection he with e1 e2 e3
          injection e1 with e1
          injection e1 with e1
          subst e1 e3
          obtain ⟨s0, s1, s2⟩ := hcell w4 (Below.refl _ _)
          have H4 := Lib.hid (And.intro hO4 (And.intro hB4 hrow4))
          clear hclo hO4 hM4 hB4 hr4 hrow4 hblk hrowL hcl hcell e2 q0 q1 q2 x0 x1 x2
          go_wp2_with fail
          have h1 := (H4.out.2.2.stored (i * 3) (.int .i64 x.key)).1
          have h2 := (h1.stored (i * 3 + 1) (.complex .f64 (wd x.fr) (wd x.to_))).1
          have h3 := (h2.stored (i * 3 + 2) (.int .i64 x.val)).1
          have g1 := (H4.out.2.2.stored (i * 3) (.int .i64 x.key)).2
          have g2 := g1.trans (h1.stored (i * 3 + 1) (.complex .f64 (wd x.fr) (wd x.to_))).2
          have g3 := g2.trans (h2.stored (i * 3 + 2) (.int .i64 x.val)).2
          rw [SlD.fm_set3 encS_len3 (y := x) rfl L i (by rw [← HL.out.2]; omega)] at h3
          have hb4w : base ≤ w4.heap.size := Nat.le_trans HBR.out H4.out.2.1.size
          have HF := Lib.hid (And.intro h3 (And.intro (H4.out.1.grown g3 HGB.out) ((HG.out.trans (KB.low H4.out.2.1)).grown g3 hb4w)))
          clear h1 h2 h3 g1 g2 g3 s0 s1 s2 f0 f1 f2 y0 y1 y2 cur hb4w
          go_roundw
          case rel => exact ⟨L.set i x, i + 1, j + 1, u4, by go_num, by go_num, by omega, HR.out.keep HX.out.1 HBB.out, HF.out.1, by rw [SlD.take_snoc HX.out.1, endL_no HBB.out]; exact HF.out.2.1, HF.out.2.2⟩
          case measure => simp [intOf]; omega
      · obtain rfl : j = n := by omega
        have hin : i < j := hij
        have HLN := Lib.hid hLn
        have hd := hrun
        rw [HN.out] at hd
        have HD := Lib.hid hd.done
        have hini : (i : Int) < (j : Int) := by omega
        have hk0 : (0 : Int) ≤ (i : Int) := by omega
        obtain ⟨cur, hblk⟩ : ∃ cur : Array Value, wr.heap[g]? = some (.cells cur 113 (0, 0)) := own_typed hrow g rfl
        have hcs : ∀ q, q < (j - i) * 3 → (wr.cell? ⟨g, i * 3 + q, none⟩).isSome = true := fun q hq => by
          rw [blk_cell hblk]
          rcases hrow.2 with ⟨h0, _⟩ | ⟨g', cap', cur', he, _, hh, _, _, h3, h4⟩
          · simp at h0
          · simp only [Value.slice.injEq, Option.some.injEq, Addr.mk.injEq, and_true, true_and] at he
            obtain ⟨rfl, rfl⟩ := he
            rw [hblk] at hh
            injection hh with hh
            injection hh with hh
            subst hh
            rw [Array.getElem?_eq_getElem (by rw [h3]; omega)]
            rfl
        obtain ⟨vs, hvs⟩ := run_clear3 wr 0 g (i * 3) (j - i) (c - i) (by omega) hcs (fun q _ => blk_frozen hblk _)
        obtain ⟨xs', hown', hx', hg'⟩ := own_setCells vs (i * 3) wr _ hrow
        have hout' := hout.grown hg' HGB.out
        have hkb' := hkb.grown hg' hbr
        generalize wr.setCells g (i * 3) vs = W5 at hvs hown' hg' hout' hkb'
        have HF := Lib.hid (And.intro hown' (And.intro hx' (And.intro hout' hkb')))
        clear hd hLn hrun hrow hkb hout hcs hblk cur hown' hx' hg' hout' hkb' hbr
        go_wp2_with fail
        go_ret
        have hcut := own_cut HF.out.1 (show i ≤ j by omega) (by have h1 := HF.out.1.1; omega)
        rw [HF.out.2.1, SlD.fm_take encS_len3, HD.out.1] at hcut
        refine ⟨_, u', rfl, ?_, ?_, HF.out.2.2.2, .inl rfl⟩
        · rw [← HD.out.2]
          exact hcut
        · have h1 := HF.out.2.2.1
          rw [HN.out, List.take_length] at h1
          exact h1
end Go.Proofs.Ytanhibhcmfmeeaa.Se
/- Expire. -/
namespace Go.Proofs.Ytanhibhcmfmeeaa.Se
open Go.RowKit Go.Proofs.YtanhibhcmfmeeaaW.PrintWords Go.Proofs.YtanhibhcmfmeeaaW.PrintMore Go.Proofs.Ytanhibhcmfmeeaa.Cut Go.Proofs.Ytanhibhcmfmeeaa.Fr Go.Proofs.Ytanhibhcmfmeeaa.SlK Go.Proofs.Ytanhibhcmfmeeaa.Flo
open Go.Proofs.Ytanhibhcmfmeeaa.SlD (kept Run)
def ExpP (w : World) (B s : Nat) (room gap before : Int) (l : L4) (v : Value) (e : Ending) (w' : World) : Prop :=
  ∃ u v', e = .returned u ∧ Row5 w' w.heap.size u (endL gap before l) ∧ Own w' B s room gap (kept (endedB gap before) l) v' ∧ Mv w w' (F s v) (F s v')
theorem rows3 (w : World) (a b c : Obj) : ∃ W, W = ((w.alloc a).alloc b).alloc c ∧ Below w.heap.size w W ∧ W.heap.size = w.heap.size + 3 ∧ W.heap[w.heap.size]? = some a ∧ W.heap[w.heap.size + 1]? = some b ∧ W.heap[w.heap.size + 1 + 1]? = some c := by
  refine ⟨_, rfl, below_alloc (below_alloc (below_alloc (Below.refl _ _) _) _) _, by simp, ?_, ?_, ?_⟩
  · rw [(Go.MapKept.heap_alloc _ _).2 _ (by simp; omega), (Go.MapKept.heap_alloc _ _).2 _ (by simp), (Go.MapKept.heap_alloc w _).1]
  · rw [(Go.MapKept.heap_alloc _ _).2 _ (by simp)]
    simpa using (Go.MapKept.heap_alloc (w.alloc a) b).1
  · simpa using (Go.MapKept.heap_alloc ((w.alloc a).alloc b) c).1
theorem exp_fin {w W w4 : World} {B s n c : Nat} {room gap before : Int} {l : L4} {A : Option Addr} {v' u' : Value} (h : Own w B s room gap l (.slice A n c)) (hB : Below w.heap.size w W) (hown : w4.ownsRow B 113 3 v' (kept (endedB gap before) l).length ((kept (endedB gap before) l).flatMap encS)) (hout : OutO w4 (w.heap.size + 1 + 1) (w.heap.size + 1 + 1) u' (endL gap before l))
    (hkb : KB (w.heap.size + 1 + 1) (Value.slice A n c).ownBlock W.drew w4) (hat : v'.ownBlock = (Value.slice A n c).ownBlock ∨ v'.ownBlock = none) (hs4 : w4.heap[s]? = some (.cells #[.int .i64 room, .int .i64 gap, .slice A n c] 115 (0, 0))) :
    Row5 (w4.setCell ⟨s, 2, none⟩ v') w.heap.size u' (endL gap before l) ∧ Own (w4.setCell ⟨s, 2, none⟩ v') B s room gap (kept (endedB gap before) l) v' ∧ Mv w (w4.setCell ⟨s, 2, none⟩ v') (F s (.slice A n c)) (F s v') := by
  have hsl := (h.lt s (.inl rfl)).2
  have hks : ∀ k, k ≠ s → (w4.setCell ⟨s, 2, none⟩ v').heap[k]? = w4.heap[k]? := fun k hk => Below.heap_setCell _ ⟨s, 2, none⟩ _ k hk
  refine ⟨?_, ?_, ?_⟩
  · refine row5_of (own_lower (own_move hout.own fun k hk => hks k ?_) (show w.heap.size ≤ w.heap.size + 1 + 1 by omega))
    have := own_base hout.own k hk
    omega
  · refine ⟨blk_put hs4 2 _ rfl, own_move hown fun k hk => hks k fun e => ?_, List.Pairwise.filter _ h.sorted, fun x hx => h.wf x (List.mem_filter.1 hx).1, h.rng, Nat.le_trans (SlD.kept_len _ _) h.fits, h.base⟩
    rw [e] at hk
    obtain ⟨cells, hc⟩ := own_typed hown s hk
    rw [hs4] at hc
    injection hc with hc
    injection hc with _ hc
    exact absurd hc (by decide)
  · have hm : Mv w w4 (F s (.slice A n c)) (F s v') := by
      refine ⟨hkb.os.trans hB.os, hkb.tape.trans hB.tape, hkb.output.trans hB.output, Nat.le_trans hB.size hkb.size, fun k hk hn => (hkb.keep k (by omega) fun e => hn (.inr e)).trans (hB.block k hk), fun k hk => ?_⟩
      rcases hk with hk | hk
      · exact .inl (.inl hk)
      · rcases hat with hat | hat
        · exact .inl (.inr (hat ▸ hk))
        · rw [hat] at hk; cases hk
    exact mv_set hm (.inl (.inl rfl)) _
set_option maxRecDepth 100000 in
set_option maxHeartbeats 16000000 in
theorem expire_calls {w : World} {B s : Nat} {room gap : Int} {l : L4} {v : Value} (h : Own w B s room gap l v) (before : Int) :
    Calls Try.prog 28 #[.pointer (some ⟨s, 0, none⟩), .int .i64 before] w (ExpP w B s room gap before l v) := by
  obtain ⟨W, hW, hB, hsz, h0, h1, h2⟩ := rows3 w (.cells #[.pointer (some ⟨s, 0, none⟩)] 76) (.cells #[.int .i64 before] 2) (.cells #[.slice none 0 0] 37)
  have hsl := (h.lt s (.inl rfl)).2
  have hO := h.below hB
  have hOd := hO.below (below_drew (Below.refl W.heap.size W))
  obtain ⟨c0, c1, c2⟩ := hO.cells
  have d1 : W.cell? ⟨w.heap.size, 0, none⟩ = some (.pointer (some ⟨s, 0, none⟩)) := (blk_cell h0 0).trans rfl
  have d2 : W.cell? ⟨w.heap.size + 1, 0, none⟩ = some (.int .i64 before) := (blk_cell h1 0).trans rfl
  have hvl : ∀ k, v.ownBlock = some k → k < w.heap.size := fun k hk => (h.lt k (.inr hk.symm)).2
  have hdel := delS_calls (w := W.drew) (B := B) (base := w.heap.size + 1 + 1) (p1 := w.heap.size) (p2 := w.heap.size + 1) (p3 := w.heap.size + 1 + 1) (s := s) (gap := gap) (before := before) (u := .slice none 0 0) (v := v) (l := l) hOd.ses h.wf h.fits (fun k hk => by have := hvl k hk; omega)
    ⟨d1, d2, c1, by omega, by omega, by omega, h.rng.2.2.1, h.rng.2.2.2⟩ ⟨h2, own_nil _ _ _ _, Nat.le_refl _⟩ (fun e => by have := hvl _ e.symm; omega) (fun e => by have := hvl _ e.symm; omega) h.ne
  obtain ⟨A, n, c, hv⟩ : ∃ A n c, v = .slice A n c := by
    obtain ⟨A, c, e⟩ := own_slice h.ses
    exact ⟨A, _, c, e⟩
  have hn : n = l.length := by
    obtain ⟨A', c', e⟩ := own_slice h.ses
    rw [hv] at e
    injection e
  subst hv
  have f2 := blk_frozen hO.row 2
  have HW := Lib.hid hW; have HB := Lib.hid hB; have HO := Lib.hid (And.intro h (And.intro hO (And.intro hvl hn))); have HSL := Lib.hid hsl; have H012 := Lib.hid (And.intro h0 (And.intro h1 h2)); have HSZ := Lib.hid hsz
  clear hW hB h0 h1 h2 hO hOd h hvl hsl c0 c1 hn hsz
  go_enter Try.func28, Try.ntmps28
  go_upto_region 4 with fail
  rw [← HW.out]
  go_region_with (first
    | (go_at_call 44; (with_reducible refine hdel.mono ?_); rintro e w4 ⟨v', u', rfl, hown, hout, hkb, hat⟩; obtain ⟨A', c', rfl⟩ := own_slice hown; obtain ⟨A5, c5, hu'⟩ := own_slice hout.own; subst hu'; have hs4 := (hkb.keep s (by have := HSL.out; omega) HO.out.1.ne).trans HO.out.2.1.row; have k2 : w4.cell? ⟨s, 2, none⟩ = some (.slice A n c) := (blk_cell hs4 2).trans rfl; have g2 := blk_frozen hs4 2; have hp4 := (hkb.keep w.heap.size (by omega) (fun e => by have := HO.out.2.2.1 _ e.symm; omega)).trans H012.out.1; have k1 : w4.cell? ⟨w.heap.size, 0, none⟩ = some (.pointer (some ⟨s, 0, none⟩)) := (blk_cell hp4 0).trans rfl; have k5 : w4.cell? ⟨w.heap.size + 1 + 1, 0, none⟩ = some (.slice A5 (endL gap before l).length c5) := (blk_cell hout.row 0).trans rfl; have H4 := Lib.hid (And.intro hown (And.intro hout (And.intro hkb (And.intro hat hs4)))); clear hown hout hkb hat hs4 hp4))
  all_goals
    go_wp2_with fail
    go_ret
    obtain ⟨q1, q2, q3⟩ := exp_fin HO.out.1 HB.out H4.out.1 H4.out.2.1 H4.out.2.2.1 H4.out.2.2.2.1 H4.out.2.2.2.2
    exact ⟨_, _, rfl, q1, q2, q3⟩
end Go.Proofs.Ytanhibhcmfmeeaa.Se
/- The walk of slices.Delete of one element of 3 cells, in a row of the call's own. -/
namespace Go.Proofs.Ytanhibhcmfmeeaa.Se
open Go.RowKit Go.Proofs.YtanhibhcmfmeeaaW.PrintWords Go.Proofs.YtanhibhcmfmeeaaW.PrintMore Go.Proofs.Ytanhibhcmfmeeaa.Cut Go.Proofs.Ytanhibhcmfmeeaa.Fr Go.Proofs.Ytanhibhcmfmeeaa.SlK
open Go.Proofs.Ytanhibhcmfmeeaa.Se (own_setCells own_cut)
abbrev zcD : Array Value := #[.int .i64 0, .complex .f64 0 0, .int .i64 0]
set_option maxRecDepth 100000 in
theorem zeroD (w : World) : (zeroValue 113).run Try.prog w = .ok (.agg zcD) w := by kernel_rfl
theorem zD_one (k : Nat) : ∀ v ∈ (Builtin.zeroCells (Value.agg zcD).cells k).toList, v.oneCell' = true := by
  intro v hv
  have e : (Value.agg zcD).cells = zcD := by rfl
  rw [e] at hv
  simp only [Builtin.zeroCells, Array.toList_map, List.mem_map] at hv
  obtain ⟨i, _, rfl⟩ := hv
  have h : ∀ r : Fin 3, (zcD[r.val]!).oneCell' = true := by decide +kernel
  exact h ⟨i % 3, Nat.mod_lt _ (by decide)⟩
theorem zD_len (k : Nat) : (Builtin.zeroCells (Value.agg zcD).cells k).toList.length = k * 3 := by
  have e : (Value.agg zcD).cells = zcD := by rfl
  rw [e]
  simp [Builtin.zeroCells]
theorem run_clearD (w : World) (ty : TypeId) (b o k c : Nat) (hk : 0 < k) (hc : ∀ j, j < k * 3 → (w.cell? ⟨b, o + j, none⟩).isSome = true) (hf : ∀ j, j < k * 3 → w.frozen? ⟨b, o + j, none⟩ = false) :
    ∃ vs, (Builtin.clear_ #[109] ty #[.slice (some ⟨b, o, none⟩) k c]).run Try.prog w = .ok (.tuple #[]) (w.setCells b o vs) := by
  obtain ⟨zs, hzs⟩ : ∃ zs, zs = (Builtin.zeroCells (Value.agg zcD).cells k).toList := ⟨_, rfl⟩
  have hl := zD_len k
  have h1 := zD_one k
  rw [← hzs] at hl h1
  have hst := run_storeCells_cells (P := Try.prog) b o zs 0 w (fun j hj => by rw [hl] at hj; exact hc j hj) (fun j hj => by rw [hl] at hj; exact hf j hj) h1
  simp only [Nat.add_zero] at hst
  obtain ⟨m, rfl⟩ : ∃ m, k = m + 1 := ⟨k - 1, by omega⟩
  refine ⟨zs, ?_⟩
  have hz := zeroD
  simp [Builtin.clear_, run_underlying Try.underlying109, hz, ← hzs, hst]
theorem own_spliceD {base sz n cap g : Nat} {t : TypeId} : ∀ (vs : List Value) (o : Nat) (w : World) (xs : List Value), o + vs.length ≤ xs.length → w.ownsRow base t sz (.slice (some ⟨g, 0, none⟩) n cap) n xs →
    (w.setCells g o vs).ownsRow base t sz (.slice (some ⟨g, 0, none⟩) n cap) n (xs.take o ++ vs ++ xs.drop (o + vs.length)) ∧ w.grownBy (w.setCells g o vs) (some g)
  | [], o, w, xs, _, h => ⟨by simpa [World.setCells] using h, ⟨rfl, rfl, rfl, Nat.le_refl _, fun _ _ _ => rfl⟩⟩
  | v :: r, o, w, xs, hl, h => by
    obtain ⟨h1, g1⟩ := h.stored o v
    rw [List.length_cons] at hl
    obtain ⟨h2, g2⟩ := own_spliceD r (o + 1) _ _ (by rw [List.length_set]; omega) h1
    refine ⟨?_, g1.trans g2⟩
    have e1 : (xs.set o v).take (o + 1) = xs.take o ++ [v] := by
      rw [List.take_succ_eq_append_getElem (by rw [List.length_set]; omega), List.take_set_of_le (Nat.le_refl o), List.getElem_set_self]
    have e2 : (xs.set o v).drop (o + 1 + r.length) = xs.drop (o + (v :: r).length) := by
      rw [List.drop_set_of_lt (by omega), List.length_cons]
      congr 1; omega
    rw [e1, e2] at h2
    simpa [World.setCells] using h2
def DelE (w : World) (base : Nat) (v : Value) (n i : Nat) (cs : List Value) (e : Ending) (w' : World) : Prop :=
  ∃ v', e = .returned v' ∧ w'.ownsRow base 113 3 v' (n - 1) (cs.take (i * 3) ++ cs.drop ((i + 1) * 3)) ∧ w.grownBy w' v.ownBlock ∧ v'.ownBlock = v.ownBlock
set_option maxHeartbeats 8000000 in
set_option maxRecDepth 1000000 in
theorem del_one (w : World) (base : Nat) (v : Value) (n i j : Nat) (cs : List Value) (hown : w.ownsRow base 113 3 v n cs) (hi : i < n) (hj : j = i + 1) (h1 : ∀ u ∈ cs, u.oneCell' = true) (hn : n ≤ 1000000) :
    Calls Try.prog 122 #[v, .int .i64 i, .int .i64 j] w (DelE w base v n i cs) := by
  obtain ⟨i0, hi0, hz⟩ := Option.map_eq_some_iff.1 (show (Try.prog.info? 113).map (·.size) = some 3 by kernel_rfl)
  have hlen := hown.1
  obtain ⟨g, cap, cur, rfl, hg, hb, hnc, hcm, hcs, hct⟩ : ∃ g cap cur, v = .slice (some ⟨g, 0, none⟩) n cap ∧ base ≤ g ∧ w.heap[g]? = some (.cells cur 113 (0, 0)) ∧ n ≤ cap ∧ cap ≤ maxLen ∧ cur.size = cap * 3 ∧ cur.toList.take (n * 3) = cs := by
    rcases hown.2 with ⟨_, h0⟩ | h
    · omega
    · exact h
  have hcm' : cap ≤ 9223372036854775807 := by simp only [maxLen] at hcm; omega
  obtain ⟨news, hnews⟩ : ∃ news, news = cs.drop (j * 3) := ⟨_, rfl⟩
  have hnl : news.length = (n - j) * 3 := by rw [hnews, List.length_drop, hlen]; omega
  have hcell : ∀ t, t < cap * 3 → (w.drew.cell? ⟨g, t, none⟩).isSome = true := fun t ht => by
    show (w.cell? _).isSome = true
    rw [blk_cell hb, Array.getElem?_eq_getElem (by rw [hcs]; exact ht)]; rfl
  obtain ⟨A, hA, hsrc⟩ : ∃ A : Addr, (if cap = j then some (⟨g, 0, none⟩ : Addr) else some ⟨g, j * 3, none⟩) = some A ∧ Hid (∀ t u, news[t]? = some u → w.drew.cell? (A.add t) = some u) := by
    by_cases h : cap = j
    · refine ⟨⟨g, 0, none⟩, by simp [h], fun t u hu => ?_⟩
      have h0 : news.length = 0 := by rw [hnl]; have : n - j = 0 := by omega
                                      rw [this, Nat.zero_mul]
      rw [List.length_eq_zero_iff.1 h0] at hu
      simp at hu
    · refine ⟨⟨g, j * 3, none⟩, by simp [h], fun t u hu => ?_⟩
      rw [hnews, List.getElem?_drop, ← hct, List.getElem?_take] at hu
      split at hu
      · rw [Addr.add_lit]
        show w.cell? _ = some u
        rw [blk_cell hb, ← Array.getElem?_toList]
        exact hu
      · cases hu
  have s1 : Hid (news.length = (n - j) * 3) := hnl
  have s2 : Hid (∀ u ∈ news, u.oneCell' = true) := fun u hu => h1 u (by rw [hnews] at hu; exact List.mem_of_mem_drop hu)
  have s3 : Hid (∀ t, t < news.length → (w.drew.cell? ⟨g, 0 + i * 3 + t, none⟩).isSome = true ∧ w.drew.frozen? ⟨g, 0 + i * 3 + t, none⟩ = false) := fun t ht => by
    rw [hnl] at ht
    exact ⟨hcell _ (by omega), blk_frozen hb _⟩
  obtain ⟨W1, hW1⟩ : ∃ W1, W1 = w.drew.setCells g (0 + i * 3) news := ⟨_, rfl⟩
  have hod : w.drew.ownsRow base 113 3 (.slice (some ⟨g, 0, none⟩) n cap) n cs := hown
  obtain ⟨hs, hgs⟩ := own_spliceD news (0 + i * 3) w.drew cs (by rw [hnl, hlen]; omega) hod
  rw [← hW1] at hs hgs
  obtain ⟨cur1, hb1⟩ : ∃ c1 : Array Value, W1.heap[g]? = some (.cells c1 113 (0, 0)) := own_typed hs g rfl
  have hc1 : ∀ q, q < 1 * 3 → (W1.cell? ⟨g, (n - 1) * 3 + q, none⟩).isSome = true := fun q hq => by
    rw [blk_cell hb1]
    rcases hs.2 with ⟨h0, _⟩ | ⟨g', cap', cur', he, _, hh, _, _, h3, h4⟩
    · simp at h0
    · simp only [Value.slice.injEq, Option.some.injEq, Addr.mk.injEq, and_true, true_and] at he
      obtain ⟨rfl, rfl⟩ := he
      rw [hb1] at hh
      injection hh with hh
      injection hh with hh
      subst hh
      rw [Array.getElem?_eq_getElem (by rw [h3]; omega)]
      rfl
  obtain ⟨vs, hvs⟩ := run_clearD W1 0 g ((n - 1) * 3) 1 (cap - (n - 1)) (by decide) hc1 (fun q _ => blk_frozen hb1 _)
  obtain ⟨xs', hown', hx', hg'⟩ := own_setCells vs ((n - 1) * 3) W1 _ hs
  have hcut := own_cut hown' (show n - 1 ≤ n by omega) (by rw [hown'.1])
  rw [hx'] at hcut
  have htk : (cs.take (0 + i * 3) ++ news ++ cs.drop (0 + i * 3 + news.length)).take ((n - 1) * 3) = cs.take (i * 3) ++ cs.drop ((i + 1) * 3) := by
    rw [Nat.zero_add, hnews, ← hj]
    rw [List.take_append_of_le_length (by rw [List.length_append, List.length_take, List.length_drop, hlen]; omega)]
    rw [List.take_of_length_le (by rw [List.length_append, List.length_take, List.length_drop, hlen]; omega)]
  rw [htk] at hcut
  have hgw : w.grownBy (W1.setCells g ((n - 1) * 3) vs) (some g) := World.grownBy.trans ⟨hgs.os, hgs.tape, hgs.output, hgs.size, hgs.block⟩ hg'
  have hW : Hid (W1 = w.drew.setCells g (0 + i * 3) news) := hW1
  generalize W1.setCells g ((n - 1) * 3) vs = W5 at hvs hcut hgw
  have HF := Lib.hid (And.intro hcut hgw)
  have hin : (i : Int) < (n : Int) := by omega
  have hic : i ≤ cap := by omega
  have hjc : j ≤ cap := by omega
  have hjn : j ≤ n := by omega
  have hij : i ≤ j := by omega
  have hne : ((i : Int) == (j : Int)) = false := beq_eq_false_iff_ne.2 (by omega)
  have e1 : i + (n - j) = n - 1 := by omega
  have e2 : n - (n - 1) = 1 := by omega
  have e3 : (n - 1) * 3 = 0 + (n - 1) * 3 := by omega
  clear hW1 hs hgs hb1 hc1 hcut hown' hx' hg' htk hgw hod hcell hcs hct hb hnews hnl hown hj hg hcm hlen e3 h1 xs' cur1
  go_enter Try.func122, Try.ntmps122
  go_wp2_with fail
  go_region_law (refine step_append_room rfl (.tmp 22) (.tmp 25) 109 rfl 113 i0 3 Try.underlying109 hi0 hz g 0 i cap (by simp [Act.eval, Act.put]) A (n - j) (cap - j) news (by simp [Act.eval, Act.put]) s1.out hsrc.out s2.out (by omega) s3.out ?_; rw [← hW.out])
  go_wp2_with fail
  go_ret
  exact ⟨_, rfl, HF.out.1, HF.out.2, rfl⟩
end Go.Proofs.Ytanhibhcmfmeeaa.Se
/- Do: a change is done. -/
namespace Go.Proofs.Ytanhibhcmfmeeaa.Se
open Go.RowKit Go.Proofs.YtanhibhcmfmeeaaW.PrintWords Go.Proofs.YtanhibhcmfmeeaaW.PrintMore Go.Proofs.Ytanhibhcmfmeeaa.Cut Go.Proofs.Ytanhibhcmfmeeaa.Fr Go.Proofs.Ytanhibhcmfmeeaa.SlK Go.Proofs.Ytanhibhcmfmeeaa.Flo
attribute [local go_sem] run_store_complex
def delAt (p : P3) (l : L4) : L4 := l.take (idx p l) ++ l.drop (idx p l + 1)
def setAt (x : S4) (l : L4) : L4 := l.set (idx x.at l) x
/-- What doing a change makes. -/
def doL (x : S4) (del : Bool) (l : L4) : L4 := if del = true then delAt x.at l else if has l x.at = true then setAt x l else insS x l
theorem has_at {l : L4} {x : S4} (hs : Sorted l) (h : has l x.at = true) : ∃ y, l[idx x.at l]? = some y ∧ y.at = x.at := by
  rw [has_idx hs] at h
  cases hl : l[idx x.at l]? with
  | none => rw [hl] at h; cases h
  | some y =>
    rw [hl] at h
    exact ⟨y, rfl, of_decide_eq_true h⟩
theorem delAt_sub (p : P3) (l : L4) : (delAt p l).Sublist l := by
  unfold delAt
  rw [← List.eraseIdx_eq_take_drop_succ]
  exact List.eraseIdx_sublist _ _
theorem sorted_set {x : S4} {l : L4} (hs : Sorted l) (h : has l x.at = true) : Sorted (setAt x l) := by
  obtain ⟨y, hy, he⟩ := has_at hs h
  unfold setAt Sorted
  rw [List.pairwise_iff_getElem]
  intro i j hi hj hij
  have hp := List.pairwise_iff_getElem.1 hs
  have hi' : i < l.length := by simpa using hi
  have hj' : j < l.length := by simpa using hj
  have hk := (List.getElem?_eq_some_iff.1 hy)
  obtain ⟨hkl, hky⟩ := hk
  have e : ∀ (q : Nat) (hq : q < (l.set (idx x.at l) x).length), ((l.set (idx x.at l) x)[q]'hq).at = (l[q]'(by simpa using hq)).at := fun q hq => by
    rw [List.getElem_set]
    split
    · rename_i hqe; subst hqe; exact he.symm.trans (congrArg S4.at hky.symm)
    · rfl
  rw [e i hi, e j hj]
  exact hp i j hi' hj' hij
def DoP (w : World) (B s : Nat) (room gap : Int) (l' : L4) (v : Value) (e : Ending) (w' : World) : Prop :=
  ∃ v', e = .returned (.int .i64 0) ∧ Own w' B s room gap l' v' ∧ Mv w w' (F s v) (F s v')
abbrev chgRow (key fr to_ val : Int) (del : Bool) : Obj := .cells #[.int .i64 key, .int .i64 fr, .int .i64 to_, .int .i64 val, .bool del] 50
/-- The store behind a row that was cut. -/
theorem del_fin {w V w4 : World} {B s : Nat} {room gap : Int} {l : L4} {v v' : Value} {p : P3} (h : Own w B s room gap l v) (hp : idx p l < l.length) (hbw : Below w.heap.size w V)
    (hown : w4.ownsRow B 113 3 v' (l.length - 1) ((l.flatMap encS).take (idx p l * 3) ++ (l.flatMap encS).drop ((idx p l + 1) * 3))) (hg : V.grownBy w4 v.ownBlock) (hat : v'.ownBlock = v.ownBlock) (hrow : w4.heap[s]? = some (.cells #[.int .i64 room, .int .i64 gap, v] 115 (0, 0))) :
    Own (w4.setCell ⟨s, 2, none⟩ v') B s room gap (delAt p l) v' ∧ Mv w (w4.setCell ⟨s, 2, none⟩ v') (F s v) (F s v') := by
  have hl : (delAt p l).length = l.length - 1 := by
    unfold delAt
    rw [List.length_append, List.length_take, List.length_drop]; omega
  rw [encS_take, encS_drop, ← List.flatMap_append] at hown
  have hown : w4.ownsRow B 113 3 v' (l.length - 1) ((delAt p l).flatMap encS) := hown
  constructor
  · refine ⟨blk_put hrow 2 _ rfl, ?_, List.Pairwise.sublist (delAt_sub p l) h.sorted, fun y hy => h.wf y ((delAt_sub p l).subset hy), h.rng, by have := h.fits; omega, h.base⟩
    rw [hl]
    refine own_move hown fun k hk => Below.heap_setCell _ ⟨s, 2, none⟩ _ k fun e => ?_
    rw [show k = s from e] at hk
    obtain ⟨cells, hc⟩ := own_typed hown s hk
    rw [hrow] at hc
    injection hc with hc
    injection hc with _ hc
    exact absurd hc (by decide)
  · have hM : Mv w w4 (F s v) (F s v') := by
      refine (Mv.of_below (F s v) hbw).trans (Mv.of_grown hg (fun k e => .inr e.symm) fun k hk => ?_)
      rcases hk with hk | hk
      · exact .inl (.inl hk)
      · exact .inl (.inr (hat ▸ hk))
    exact mv_set hM (.inl (.inl rfl)) _
/-- The store behind a session that was put in the place of another. -/
theorem set_fin {w : World} {B s g c i : Nat} {room gap : Int} {l : L4} {x : S4} (h : Own w B s room gap l (.slice (some ⟨g, 0, none⟩) l.length c)) (hx : Wf x) (hh : has l x.at = true) (hi : idx x.at l = i) (hil : i < l.length) :
    Own ((((w.setCell ⟨g, i * 3, none⟩ (.int .i64 x.key)).setCell ⟨g, i * 3 + 1, none⟩ (.complex .f64 (wd x.fr) (wd x.to_))).setCell ⟨g, i * 3 + 2, none⟩ (.int .i64 x.val)).drew) B s room gap (setAt x l) (.slice (some ⟨g, 0, none⟩) l.length c) ∧
    Mv w ((((w.setCell ⟨g, i * 3, none⟩ (.int .i64 x.key)).setCell ⟨g, i * 3 + 1, none⟩ (.complex .f64 (wd x.fr) (wd x.to_))).setCell ⟨g, i * 3 + 2, none⟩ (.int .i64 x.val)).drew) (F s (.slice (some ⟨g, 0, none⟩) l.length c)) (F s (.slice (some ⟨g, 0, none⟩) l.length c)) := by
  have hgs : s ≠ g := fun e => h.ne (by rw [e]; rfl)
  have h1 := (h.ses.stored (i * 3) (.int .i64 x.key)).1
  have h2 := (h1.stored (i * 3 + 1) (.complex .f64 (wd x.fr) (wd x.to_))).1
  have h3 := (h2.stored (i * 3 + 2) (.int .i64 x.val)).1
  have g1 := (h.ses.stored (i * 3) (.int .i64 x.key)).2
  have g2 := g1.trans (h1.stored (i * 3 + 1) (.complex .f64 (wd x.fr) (wd x.to_))).2
  have g3 := g2.trans (h2.stored (i * 3 + 2) (.int .i64 x.val)).2
  rw [SlD.fm_set3 (enc := encS) (fun _ => rfl) (y := x) rfl l i hil, ← hi] at h3
  rw [hi] at h3
  have hl : (setAt x l).length = l.length := by unfold setAt; rw [List.length_set]
  have hset : setAt x l = l.set i x := by unfold setAt; rw [hi]
  have hrow := (g3.block s (h.lt s (.inl rfl)).2 (fun e => hgs (Option.some.inj e))).trans h.row
  refine ⟨⟨hrow, ?_, sorted_set h.sorted hh, fun y hy => ?_, h.rng, by rw [hl]; exact h.fits, h.base⟩, ?_⟩
  · rw [hl, hset]; exact h3
  · rw [hset] at hy
    rcases List.mem_or_eq_of_mem_set hy with hy | rfl
    · exact h.wf y hy
    · exact hx
  · exact Mv.trans (Mv.of_grown g3 (fun k e => .inr e.symm) fun k hk => .inl hk) (Mv.of_below _ (below_drew (Below.refl _ _)))
set_option maxRecDepth 100000 in
set_option maxHeartbeats 16000000 in
theorem do_put {w : World} {B s : Nat} {room gap : Int} {l : L4} {v : Value} (h : Own w B s room gap l v) (key fr to_ val : Int) (hx : Wf ⟨key, fr, to_, val⟩) (hft : fr ≤ to_)
    (hp : has l (key, fr, to_) = false → (l.length : Int) < room) :
    Calls Try.prog 119 #[.pointer (some ⟨s, 0, none⟩), .agg #[.int .i64 key, .int .i64 fr, .int .i64 to_, .int .i64 val, .bool false]] w (DoP w B s room gap (doL ⟨key, fr, to_, val⟩ false l) v) := by
  obtain ⟨W, hW⟩ : ∃ W, W = w.alloc (chgRow key fr to_ val false) := ⟨_, rfl⟩
  have hB : Below w.heap.size w W := by rw [hW]; exact below_alloc (Below.refl _ _) _
  have hr : W.heap[w.heap.size]? = some (chgRow key fr to_ val false) := by rw [hW]; exact (Go.MapKept.heap_alloc w _).1
  have x0 : W.cell? ⟨w.heap.size, 0, none⟩ = some (.int .i64 key) := (blk_cell hr 0).trans rfl
  have x1 : W.cell? ⟨w.heap.size, 1, none⟩ = some (.int .i64 fr) := (blk_cell hr 1).trans rfl
  have x2 : W.cell? ⟨w.heap.size, 2, none⟩ = some (.int .i64 to_) := (blk_cell hr 2).trans rfl
  have x3 : W.cell? ⟨w.heap.size, 3, none⟩ = some (.int .i64 val) := (blk_cell hr 3).trans rfl
  have x4 : W.cell? ⟨w.heap.size, 4, none⟩ = some (.bool false) := (blk_cell hr 4).trans rfl
  have hO := h.below hB
  have hm1 : ∀ V, Calls Try.prog 51 #[.int .i64 fr] V fun e w' => e = .returned (.bool true) ∧ w' = V := fun V => (may_calls fr V).mono fun e w' hh => ⟨by rw [hh.1, show mayT fr = true from decide_eq_true hx.1], hh.2.symm⟩
  have hm2 : ∀ V, Calls Try.prog 51 #[.int .i64 to_] V fun e w' => e = .returned (.bool true) ∧ w' = V := fun V => (may_calls to_ V).mono fun e w' hh => ⟨by rw [hh.1, show mayT to_ = true from decide_eq_true hx.2], hh.2.symm⟩
  have htm : ∀ V, Calls Try.prog 56 #[.int .i64 fr, .int .i64 to_] V fun e w' => e = .returned (.complex .f64 (wd fr) (wd to_)) ∧ w' = V := fun V => (times_calls fr to_ V).mono fun e w' hh => ⟨hh.1, hh.2.symm⟩
  have g1 : decide (to_ < fr) = false := decide_eq_false (by omega)
  have HW := Lib.hid hW; have HB := Lib.hid hB; have HR := Lib.hid hr; have HO := Lib.hid hO; have H0 := Lib.hid (And.intro h (And.intro hx hp))
  obtain ⟨A, c, rfl, _, _⟩ := row_cells h.ses
  have HF := Lib.hid hft
  clear hW hB hr hO h hx hp hft
  go_enter Try.func119, Try.ntmps119
  go_upto_region 3 with fail
  rw [← HW.out]
  go_upto_region 5 with (first | ((with_reducible refine (hm1 _).mono ?_); rintro e w9 ⟨rfl, rfl⟩) | ((with_reducible refine (hm2 _).mono ?_); rintro e w9 ⟨rfl, rfl⟩))
  rename World => W
  go_cut [5] (fun u5 wx => u5 = .pointer (some ⟨W.heap.size, 0, none⟩) ∧ wx.heap[W.heap.size]? = some (sesRow ⟨key, fr, to_, val⟩) ∧ Below W.heap.size W wx)
  case first =>
    go_region_held3 (fun Z => Z.cell? ⟨w.heap.size, 0, none⟩ = some (.int .i64 key) ∧ Z.cell? ⟨w.heap.size, 1, none⟩ = some (.int .i64 fr) ∧ Z.cell? ⟨w.heap.size, 2, none⟩ = some (.int .i64 to_) ∧ Z.cell? ⟨w.heap.size, 3, none⟩ = some (.int .i64 val)) (go_keep)
      (first | (go_at_call 56; (with_reducible refine (htm _).mono ?_); rintro e w4 ⟨rfl, rfl⟩))
    all_goals
      rename World => W
      go_wp2_with fail
      go_meet
      case rel => exact ⟨rfl, (Go.MapKept.heap_alloc W _).1, pw_below_drewN (below_alloc (Below.refl _ _) (sesRow ⟨key, fr, to_, val⟩)) 1⟩
  case rest =>
    obtain ⟨rfl, hrx, hBx⟩ := hcut
    rename World => wx
    have hBy := below_then HB.out HB.out.size hBx
    have HWS := Lib.hid HB.out.size
    have hOx := HO.out.below hBx
    have hcx := (hBx.block w.heap.size (Array.getElem?_eq_some_iff.1 HR.out).1).trans HR.out
    have hbs := bs_calls (w := wx.drew) (hOx.below (below_drew (Below.refl wx.heap.size wx))).ses H0.out.1.sorted H0.out.1.wf (by have := H0.out.1.fits; omega) ⟨key, fr, to_, val⟩ H0.out.2.1
    unfold sesV at hbs
    obtain ⟨y0, y1, y2⟩ := Bx.of hrx
    have z4 : wx.cell? ⟨w.heap.size, 4, none⟩ = some (.bool false) := (blk_cell hcx 4).trans rfl
    obtain ⟨c0, c1, c2⟩ := hOx.cells
    obtain ⟨i, hi⟩ : ∃ i, i = idx (key, fr, to_) l := ⟨_, rfl⟩
    obtain ⟨o, ho⟩ : ∃ o, o = has l (key, fr, to_) := ⟨_, rfl⟩
    have hbs : Calls Try.prog 69 #[.slice A l.length c, .agg #[.int .i64 key, .complex .f64 (wd fr) (wd to_), .int .i64 val], .func (.func 70) #[] #[]] wx.drew fun e w' => e = .returned (.tuple #[.int .i64 i, .bool o]) ∧ Below wx.drew.heap.size wx.drew w' := by rw [hi, ho]; exact hbs
    have HI := Lib.hid (And.intro hi ho); have HBY := Lib.hid hBy; have HOX := Lib.hid hOx; have HRX := Lib.hid hrx
    clear hBx hrx hBy hOx hcx c0 c1 x0 x1 x2 x3 x4 hm1 hm2 htm hi ho HW HB HR HO
    go_upto_region 6 with fail
    go_cut [6, 7] (fun u6 u7 wy => u6 = .int .i64 i ∧ u7 = .bool o ∧ Below wx.heap.size wx wy)
    case first =>
      go_region_held3 (fun Z => Z.cell? ⟨s, 2, none⟩ = some (.slice A l.length c) ∧ Z.cell? ⟨W.heap.size, 0, none⟩ = some (.int .i64 key) ∧ Z.cell? ⟨W.heap.size, 1, none⟩ = some (.complex .f64 (wd fr) (wd to_)) ∧ Z.cell? ⟨W.heap.size, 2, none⟩ = some (.int .i64 val)) (go_keep)
        (first
        | (go_at_call 69; (with_reducible refine hbs.mono ?_); rintro e w4 ⟨rfl, hB4⟩; have HB4 := Lib.hid hB4; have k0 := keepB hB4 c2; have k1 := keepB hB4 y0; have k2 := keepB hB4 y1; have k3 := keepB hB4 y2; clear hB4))
      all_goals
        go_wp2_with fail
        go_meet
        case rel => exact ⟨rfl, rfl, below_then (below_drew (Below.refl wx.heap.size wx)) (Nat.le_refl _) HB4.out⟩
    case rest =>
      obtain ⟨rfl, rfl, hBz⟩ := hcut
      rename World => wy
      have hO := HOX.out.below hBz
      have hBw := below_then HBY.out HBY.out.size hBz
      obtain ⟨c0, _, c2⟩ := hO.cells
      have z4 := keepB hBz z4
      obtain ⟨y0, y1, y2⟩ := (Bx.of HRX.out).below hBz
      have HO := Lib.hid hO; have HBW := Lib.hid hBw
      clear hbs hBz hO hBw HOX HBY
      cases o with
      | true =>
        have hh : has l (key, fr, to_) = true := HI.out.2.symm
        obtain ⟨y, hy, hya⟩ := has_at (x := ⟨key, fr, to_, val⟩) H0.out.1.sorted hh
        obtain ⟨A', c', he, _, hcl⟩ := row_cells HO.out.ses
        obtain ⟨g, rfl, hcell⟩ := hcl _ y hy
        injection he with e1 e2 e3
        subst e1 e3
        have hidx : idx (key, fr, to_) l = i := HI.out.1.symm
        obtain ⟨q0, q1, q2⟩ := hcell wy (Below.refl _ _)
        rw [show (⟨key, fr, to_, val⟩ : S4).at = (key, fr, to_) from rfl, hidx] at q0 q1 q2 hy
        obtain ⟨cur, hblk⟩ : ∃ cur : Array Value, wy.heap[g]? = some (.cells cur 113 (0, 0)) := own_typed HO.out.ses g rfl
        have f0 := blk_frozen hblk (i * 3)
        have f1 := blk_frozen hblk (i * 3 + 1)
        have f2 := blk_frozen hblk (i * 3 + 2)
        have hgs : g ≠ s := fun e => by
          have := HO.out.ne
          rw [← e] at this
          exact this rfl
        have hgw : g ≠ W.heap.size := fun e => by
          have h1 := (H0.out.1.lt g (.inr rfl)).2
          have h2 := HWS.out
          omega
        have hil : i < l.length := (List.getElem?_eq_some_iff.1 hy).1
        have hili : (i : Int) < (l.length : Int) := by omega
        have hi0 : (0 : Int) ≤ (i : Int) := by omega
        have HH := Lib.hid (And.intro hh (And.intro hidx hil))
        clear hh hy hya hcl hcell hidx hblk hil e2 cur
        go_wp2_with fail
        go_region_held3 (fun Z => Z.cell? ⟨s, 2, none⟩ = some (.slice (some ⟨g, 0, none⟩) l.length c) ∧ Z.cell? ⟨W.heap.size, 0, none⟩ = some (.int .i64 key) ∧ Z.cell? ⟨W.heap.size, 1, none⟩ = some (.complex .f64 (wd fr) (wd to_)) ∧ Z.cell? ⟨W.heap.size, 2, none⟩ = some (.int .i64 val)) (go_keep) (fail)
        all_goals
          go_wp2_with fail
          go_ret
          obtain ⟨r1, r2⟩ := set_fin (x := ⟨key, fr, to_, val⟩) HO.out H0.out.2.1 HH.out.1 HH.out.2.1 HH.out.2.2
          have hdl : doL ⟨key, fr, to_, val⟩ false l = setAt ⟨key, fr, to_, val⟩ l := by
            unfold doL
            rw [if_neg (by decide), if_pos (show has l (⟨key, fr, to_, val⟩ : S4).at = true from HH.out.1)]
          rw [hdl]
          exact ⟨_, rfl, r1, (Mv.of_below _ HBW.out).trans r2⟩
      | false =>
        have hh : has l (key, fr, to_) = false := HI.out.2.symm
        have hroom := H0.out.2.2 hh
        have hg : decide (room ≤ (l.length : Int)) = false := decide_eq_false (by omega)
        have hins := fun q => insert_calls (HO.out.below (w' := wy.drewN q) (pw_below_drewN (Below.refl _ _) q)) ⟨key, fr, to_, val⟩ H0.out.2.1 hh (by have := H0.out.1.rng; omega)
        unfold sesV at hins
        have HH := Lib.hid hh
        clear hh hroom
        go_wp2_with fail
        go_quiet (fail)
        go_wp2_with fail
        refine (hins _).mono ?_
        rintro e w4 ⟨v', rfl, hO4, hM4⟩
        have H4 := Lib.hid (And.intro hO4 hM4)
        clear hins hO4 hM4 c0 c2 z4 y0 y1 y2 hg
        go_wp2_with fail
        go_ret
        have hdl : doL ⟨key, fr, to_, val⟩ false l = insS ⟨key, fr, to_, val⟩ l := by
          unfold doL
          rw [if_neg (by decide), if_neg (by rw [show (⟨key, fr, to_, val⟩ : S4).at = (key, fr, to_) from rfl, HH.out]; decide)]
        rw [hdl]
        exact ⟨v', rfl, H4.out.1, (Mv.of_below _ (pw_below_drewN HBW.out _)).trans H4.out.2⟩
set_option maxRecDepth 100000 in
set_option maxHeartbeats 16000000 in
theorem do_del {w : World} {B s : Nat} {room gap : Int} {l : L4} {v : Value} (h : Own w B s room gap l v) (key fr to_ val : Int) (hx : Wf ⟨key, fr, to_, val⟩) (hft : fr ≤ to_)
    (hv0 : val = 0) (hd : has l (key, fr, to_) = true) :
    Calls Try.prog 119 #[.pointer (some ⟨s, 0, none⟩), .agg #[.int .i64 key, .int .i64 fr, .int .i64 to_, .int .i64 val, .bool true]] w (DoP w B s room gap (doL ⟨key, fr, to_, val⟩ true l) v) := by
  subst hv0
  obtain ⟨W, hW⟩ : ∃ W, W = w.alloc (chgRow key fr to_ 0 true) := ⟨_, rfl⟩
  have hB : Below w.heap.size w W := by rw [hW]; exact below_alloc (Below.refl _ _) _
  have hr : W.heap[w.heap.size]? = some (chgRow key fr to_ 0 true) := by rw [hW]; exact (Go.MapKept.heap_alloc w _).1
  have x0 : W.cell? ⟨w.heap.size, 0, none⟩ = some (.int .i64 key) := (blk_cell hr 0).trans rfl
  have x1 : W.cell? ⟨w.heap.size, 1, none⟩ = some (.int .i64 fr) := (blk_cell hr 1).trans rfl
  have x2 : W.cell? ⟨w.heap.size, 2, none⟩ = some (.int .i64 to_) := (blk_cell hr 2).trans rfl
  have x3 : W.cell? ⟨w.heap.size, 3, none⟩ = some (.int .i64 0) := (blk_cell hr 3).trans rfl
  have x4 : W.cell? ⟨w.heap.size, 4, none⟩ = some (.bool true) := (blk_cell hr 4).trans rfl
  have hO := h.below hB
  have hm1 : ∀ V, Calls Try.prog 51 #[.int .i64 fr] V fun e w' => e = .returned (.bool true) ∧ w' = V := fun V => (may_calls fr V).mono fun e w' hh => ⟨by rw [hh.1, show mayT fr = true from decide_eq_true hx.1], hh.2.symm⟩
  have hm2 : ∀ V, Calls Try.prog 51 #[.int .i64 to_] V fun e w' => e = .returned (.bool true) ∧ w' = V := fun V => (may_calls to_ V).mono fun e w' hh => ⟨by rw [hh.1, show mayT to_ = true from decide_eq_true hx.2], hh.2.symm⟩
  have htm : ∀ V, Calls Try.prog 56 #[.int .i64 fr, .int .i64 to_] V fun e w' => e = .returned (.complex .f64 (wd fr) (wd to_)) ∧ w' = V := fun V => (times_calls fr to_ V).mono fun e w' hh => ⟨hh.1, hh.2.symm⟩
  have g1 : decide (to_ < fr) = false := decide_eq_false (by omega)
  have HW := Lib.hid hW; have HB := Lib.hid hB; have HR := Lib.hid hr; have HO := Lib.hid hO; have H0 := Lib.hid (And.intro h (And.intro hx hd))
  obtain ⟨A, c, rfl, _, _⟩ := row_cells h.ses
  have HF := Lib.hid hft
  clear hW hB hr hO h hx hd hft
  go_enter Try.func119, Try.ntmps119
  go_upto_region 3 with fail
  rw [← HW.out]
  go_upto_region 5 with (first | ((with_reducible refine (hm1 _).mono ?_); rintro e w9 ⟨rfl, rfl⟩) | ((with_reducible refine (hm2 _).mono ?_); rintro e w9 ⟨rfl, rfl⟩))
  rename World => W
  go_cut [5] (fun u5 wx => u5 = .pointer (some ⟨W.heap.size, 0, none⟩) ∧ wx.heap[W.heap.size]? = some (sesRow ⟨key, fr, to_, 0⟩) ∧ Below W.heap.size W wx)
  case first =>
    go_region_held3 (fun Z => Z.cell? ⟨w.heap.size, 0, none⟩ = some (.int .i64 key) ∧ Z.cell? ⟨w.heap.size, 1, none⟩ = some (.int .i64 fr) ∧ Z.cell? ⟨w.heap.size, 2, none⟩ = some (.int .i64 to_) ∧ Z.cell? ⟨w.heap.size, 3, none⟩ = some (.int .i64 0)) (go_keep)
      (first | (go_at_call 56; (with_reducible refine (htm _).mono ?_); rintro e w4 ⟨rfl, rfl⟩))
    all_goals
      rename World => W
      go_wp2_with fail
      go_meet
      case rel => exact ⟨rfl, (Go.MapKept.heap_alloc W _).1, pw_below_drewN (below_alloc (Below.refl _ _) (sesRow ⟨key, fr, to_, 0⟩)) 1⟩
  case rest =>
    obtain ⟨rfl, hrx, hBx⟩ := hcut
    rename World => wx
    have hBy := below_then HB.out HB.out.size hBx
    have hOx := HO.out.below hBx
    have hcx := (hBx.block w.heap.size (Array.getElem?_eq_some_iff.1 HR.out).1).trans HR.out
    have hbs := bs_calls (w := wx.drew) (hOx.below (below_drew (Below.refl wx.heap.size wx))).ses H0.out.1.sorted H0.out.1.wf (by have := H0.out.1.fits; omega) ⟨key, fr, to_, 0⟩ H0.out.2.1
    unfold sesV at hbs
    obtain ⟨y0, y1, y2⟩ := Bx.of hrx
    have z4 : wx.cell? ⟨w.heap.size, 4, none⟩ = some (.bool true) := (blk_cell hcx 4).trans rfl
    obtain ⟨c0, c1, c2⟩ := hOx.cells
    obtain ⟨i, hi⟩ : ∃ i, i = idx (key, fr, to_) l := ⟨_, rfl⟩
    obtain ⟨o, ho⟩ : ∃ o, o = has l (key, fr, to_) := ⟨_, rfl⟩
    have hbs : Calls Try.prog 69 #[.slice A l.length c, .agg #[.int .i64 key, .complex .f64 (wd fr) (wd to_), .int .i64 0], .func (.func 70) #[] #[]] wx.drew fun e w' => e = .returned (.tuple #[.int .i64 i, .bool o]) ∧ Below wx.drew.heap.size wx.drew w' := by rw [hi, ho]; exact hbs
    have HI := Lib.hid (And.intro hi ho); have HBY := Lib.hid hBy; have HOX := Lib.hid hOx; have HRX := Lib.hid hrx
    clear hBx hrx hBy hOx hcx c0 c1 x0 x1 x2 x3 x4 hm1 hm2 htm hi ho HW HB HR HO
    go_upto_region 6 with fail
    go_cut [6, 7] (fun u6 u7 wy => u6 = .int .i64 i ∧ u7 = .bool o ∧ Below wx.heap.size wx wy)
    case first =>
      go_region_held3 (fun Z => Z.cell? ⟨s, 2, none⟩ = some (.slice A l.length c) ∧ Z.cell? ⟨W.heap.size, 0, none⟩ = some (.int .i64 key) ∧ Z.cell? ⟨W.heap.size, 1, none⟩ = some (.complex .f64 (wd fr) (wd to_)) ∧ Z.cell? ⟨W.heap.size, 2, none⟩ = some (.int .i64 0)) (go_keep)
        (first
        | (go_at_call 69; (with_reducible refine hbs.mono ?_); rintro e w4 ⟨rfl, hB4⟩; have HB4 := Lib.hid hB4; have k0 := keepB hB4 c2; have k1 := keepB hB4 y0; have k2 := keepB hB4 y1; have k3 := keepB hB4 y2; clear hB4))
      all_goals
        go_wp2_with fail
        go_meet
        case rel => exact ⟨rfl, rfl, below_then (below_drew (Below.refl wx.heap.size wx)) (Nat.le_refl _) HB4.out⟩
    case rest =>
      obtain ⟨rfl, rfl, hBz⟩ := hcut
      rename World => wy
      have hO := HOX.out.below hBz
      have hBw := below_then HBY.out HBY.out.size hBz
      obtain ⟨c0, _, c2⟩ := hO.cells
      have z4 := keepB hBz z4
      obtain ⟨y0, y1, y2⟩ := (Bx.of HRX.out).below hBz
      have HO := Lib.hid hO; have HBW := Lib.hid hBw
      clear hbs hBz hO hBw HOX HBY
      have ho : o = true := by rw [HI.out.2]; exact H0.out.2.2
      subst ho
      have hil : i < l.length := by
        obtain ⟨y, hy, _⟩ := has_at (x := ⟨key, fr, to_, 0⟩) H0.out.1.sorted H0.out.2.2
        rw [HI.out.1]; exact (List.getElem?_eq_some_iff.1 hy).1
      have hdl := del_one wy B (.slice A l.length c) l.length i (i + 1) (l.flatMap encS) HO.out.ses hil rfl (encS_one l) (by have := H0.out.1.fits; omega)
      rw [show ((i + 1 : Nat) : Int) = (i : Int) + 1 from rfl] at hdl
      have HIL := Lib.hid hil
      have hi0 : (0 : Int) ≤ (i : Int) := by omega
      have hi1 : (i : Int) ≤ 1024 := by have := H0.out.1.fits; omega
      clear hil
      go_wp2_with fail
      refine hdl.mono ?_
      rintro e w4 ⟨v', rfl, hown, hg, hat⟩
      obtain ⟨A', c', rfl⟩ := own_slice hown
      have hs4 := (hg.block s (HO.out.lt s (.inl rfl)).2 HO.out.ne).trans HO.out.row
      have k2 : w4.cell? ⟨s, 2, none⟩ = some (.slice A l.length c) := (blk_cell hs4 2).trans rfl
      have f2 := blk_frozen hs4 2
      have H4 := Lib.hid (And.intro hown (And.intro hg (And.intro hat hs4)))
      clear hdl hown hg hat hs4 c0 c2 z4 y0 y1 y2
      go_wp2_with fail
      go_ret
      have hidx : idx (key, fr, to_) l < l.length := by rw [← HI.out.1]; exact HIL.out
      obtain ⟨q1, q2⟩ := del_fin (p := (key, fr, to_)) H0.out.1 hidx HBW.out (by rw [← HI.out.1]; exact H4.out.1) H4.out.2.1 H4.out.2.2.1 H4.out.2.2.2
      exact ⟨_, rfl, q1, q2⟩
end Go.Proofs.Ytanhibhcmfmeeaa.Se
