import Derived.Test.YtanhibhcmfmeeaaSeA
import Derived.Lib.SliceRun
import Derived.Lib.MinMax
/- The closure of Put: is a change's span the session's? -/
namespace Go.Proofs.Ytanhibhcmfmeeaa.Se
open Go.RowKit Go.Proofs.YtanhibhcmfmeeaaW.PrintWords Go.Proofs.YtanhibhcmfmeeaaW.PrintMore Go.Proofs.Ytanhibhcmfmeeaa.Cut Go.Proofs.Ytanhibhcmfmeeaa.Fr Go.Proofs.Ytanhibhcmfmeeaa.SlK Go.Proofs.Ytanhibhcmfmeeaa.Flo
def Rt (a : Int) : Prop := 0 ≤ a ∧ a ≤ 1099511627776
theorem eq_spans {a b c d : Int} (ha : Rt a) (hb : Rt b) (hc : Rt c) (hd : Rt d) :
    (FloatKind.f64.format.order (wd a) (wd c) == some .eq && FloatKind.f64.format.order (wd b) (wd d) == some .eq) = decide (a = c ∧ b = d) := by
  rw [order_eq ha.1 ha.2 hc.1 hc.2, order_eq hb.1 hb.2 hd.1 hd.2, Bool.decide_and]
set_option maxHeartbeats 4000000 in
theorem clo_put (x : S4) (hx : Rt x.fr ∧ Rt x.to_) (y : T5) (hy : Rt y.2.1 ∧ Rt y.2.2.1) (xb : Nat) (W : World) (hc : W.cell? ⟨xb, 1, none⟩ = some (.complex .f64 (wd x.fr) (wd x.to_))) :
    Calls Try.prog 58 #[.agg (encC y).toArray, .pointer (some ⟨xb, 0, none⟩)] W fun e w' => e = .returned (.bool (decide (y.2.1 = x.fr ∧ y.2.2.1 = x.to_))) ∧ Below W.heap.size W w' := by
  obtain ⟨y1, y2, y3, y4, y5⟩ := y
  have heq := eq_spans hy.1 hy.2 hx.1 hx.2
  unfold encC
  simp only at heq hy ⊢
  generalize decide (y2 = x.fr ∧ y3 = x.to_) = r at heq ⊢
  obtain ⟨V, hV⟩ : ∃ V, V = W.alloc (.cells #[.int .i64 y1, .int .i64 y2, .int .i64 y3, .int .i64 y4, .bool y5] 50) := ⟨_, rfl⟩
  have hB : Below W.heap.size W V := by rw [hV]; exact below_alloc (Below.refl _ _) _
  have hr : V.heap[W.heap.size]? = some (.cells #[.int .i64 y1, .int .i64 y2, .int .i64 y3, .int .i64 y4, .bool y5] 50 (0, 0)) := by rw [hV]; exact (Go.MapKept.heap_alloc W _).1
  have k1 : V.cell? ⟨W.heap.size, 1, none⟩ = some (.int .i64 y2) := (blk_cell hr 1).trans rfl
  have k2 : V.cell? ⟨W.heap.size, 2, none⟩ = some (.int .i64 y3) := (blk_cell hr 2).trans rfl
  have k3 := keepB hB hc
  have ht : ∀ V, Calls Try.prog 56 #[.int .i64 y2, .int .i64 y3] V fun e w' => e = .returned (.complex .f64 (wd y2) (wd y3)) ∧ w' = V := fun V => (times_calls y2 y3 V).mono fun e w' h => ⟨h.1, h.2.symm⟩
  have HV := Lib.hid hV; have HB := Lib.hid hB
  clear hV hB hr hc hx hy
  go_enter Try.func58, Try.ntmps58
  go_upto_region 1 with fail
  rw [← HV.out]
  go_quiet (first | (go_at_call 56; refine Calls.quiet_of_same (ht _)))
  go_wp2_with fail
  go_ret
  exact ⟨rfl, pw_below_drewN HB.out _⟩
end Go.Proofs.Ytanhibhcmfmeeaa.Se
/- slices.IndexFunc over changes, with the closure of Put. -/
namespace Go.Proofs.Ytanhibhcmfmeeaa.Se
open Go.RowKit Go.Proofs.YtanhibhcmfmeeaaW.PrintWords Go.Proofs.YtanhibhcmfmeeaaW.PrintMore Go.Proofs.Ytanhibhcmfmeeaa.Cut Go.Proofs.Ytanhibhcmfmeeaa.Fr Go.Proofs.Ytanhibhcmfmeeaa.SlK Go.Proofs.Ytanhibhcmfmeeaa.Flo
theorem encC_len (y : T5) : (encC y).length = 5 := rfl
/-- A row of changes, as it is read; wherever memory is made behind it. -/
theorem row_cells5 {w : World} {base : Nat} {v : Value} {ys : List T5} {n : Nat} (h : w.ownsRow base 50 5 v n (ys.flatMap encC)) (hn : n = ys.length) : ∃ A c, v = .slice A n c ∧ n ≤ c ∧ ∀ i y, ys[i]? = some y → ∃ g, A = some ⟨g, 0, none⟩ ∧ ∀ W, Below w.heap.size w W → W.cell? ⟨g, i * 5, none⟩ = some (.int .i64 y.1) ∧ W.cell? ⟨g, i * 5 + 1, none⟩ = some (.int .i64 y.2.1) ∧ W.cell? ⟨g, i * 5 + 2, none⟩ = some (.int .i64 y.2.2.1) ∧ W.cell? ⟨g, i * 5 + 3, none⟩ = some (.int .i64 y.2.2.2.1) ∧ W.cell? ⟨g, i * 5 + 4, none⟩ = some (.bool y.2.2.2.2) := by
  subst hn
  rcases h.2 with ⟨rfl, h0⟩ | ⟨g, cap, cur, rfl, hg, hh, h1, h2, h3, h4⟩
  · refine ⟨none, 0, by rw [h0], by omega, fun i p hp => ?_⟩
    obtain rfl := List.eq_nil_of_length_eq_zero h0
    simp at hp
  · refine ⟨_, cap, rfl, h1, fun i y hp => ⟨g, rfl, fun W hW => ?_⟩⟩
    have hW' := (hW.block g (Array.getElem?_eq_some_iff.1 hh).1).trans hh
    have hi := (List.getElem?_eq_some_iff.1 hp).1
    have key : ∀ j, j < 5 → W.cell? ⟨g, i * 5 + j, none⟩ = (encC y)[j]? := fun j hj => by
      have e := SlD.fm_get encC_len ys i y hp j hj
      rw [← h4, List.getElem?_take_of_lt (by omega)] at e
      rw [blk_cell hW', ← Array.getElem?_toList]; exact e
    exact ⟨key 0 (by decide), key 1 (by decide), key 2 (by decide), key 3 (by decide), key 4 (by decide)⟩
def IxP {α : Type} (p : α → Bool) (ys : List α) (r : Int) : Prop := (r = -1 ∧ ∀ y ∈ ys, p y = false) ∨ ∃ i : Nat, r = i ∧ (∃ y, ys[i]? = some y ∧ p y = true) ∧ ∀ j y, j < i → ys[j]? = some y → p y = false
def isX (x : S4) (y : T5) : Bool := decide (y.2.1 = x.fr ∧ y.2.2.1 = x.to_)
set_option maxRecDepth 100000 in
set_option maxHeartbeats 8000000 in
theorem ix_calls {w : World} {base : Nat} {v : Value} {ys : List T5} (hown : w.ownsRow base 50 5 v ys.length (ys.flatMap encC)) (hl : ys.length ≤ 1000000) (hy : ∀ y ∈ ys, Rt y.2.1 ∧ Rt y.2.2.1) (x : S4) (hx : Rt x.fr ∧ Rt x.to_) (xb : Nat) (hc : w.cell? ⟨xb, 1, none⟩ = some (.complex .f64 (wd x.fr) (wd x.to_))) :
    Calls Try.prog 68 #[v, .func (.func 58) #[] #[.pointer (some ⟨xb, 0, none⟩)]] w fun e w' => ∃ r, e = .returned (.int .i64 r) ∧ IxP (isX x) ys r ∧ Below w.heap.size w w' := by
  obtain ⟨A, c, rfl, hnc, hcl⟩ := row_cells5 hown rfl
  obtain ⟨n, hn⟩ : ∃ n, n = ys.length := ⟨_, rfl⟩
  rw [← hn] at hnc hl ⊢
  have HN := Lib.hid hn; have HC := Lib.hid hcl; have HY := Lib.hid hy; have HX := Lib.hid hx; have HK := Lib.hid hc
  clear hown hn hcl hy hx hc
  go_enter Try.func68, Try.ntmps68
  go_wp2_with fail
  go_loopw [8] (fun u8 wx => ∃ k : Nat, k ≤ n ∧ u8 = .int .i64 k ∧ (∀ j y, j < k → ys[j]? = some y → isX x y = false) ∧ Below w.heap.size w wx) (fun u8 _ => n - (intOf u8).toNat)
  case atStart => exact ⟨0, Nat.zero_le _, rfl, fun j y hj => by omega, Below.refl _ _⟩
  case round =>
    obtain ⟨k, hk, rfl, hno, hB⟩ := hrel
    by_cases hlt : k < n
    · have hlti : (k : Int) < (n : Int) := by omega
      have hk0 : (0 : Int) ≤ (k : Int) := by omega
      have hkl : k < ys.length := by rw [← HN.out]; exact hlt
      have hg := List.getElem?_eq_getElem hkl
      have hyr := HY.out _ (List.getElem_mem hkl)
      obtain ⟨g, rfl, hcell⟩ := HC.out k _ hg
      obtain ⟨p0, p1, p2, p3, p4⟩ := hcell wr hB
      generalize ys[k] = y at hg hyr p0 p1 p2 p3 p4
      have hclo := clo_put x HX.out y hyr xb wr (keepB hB HK.out)
      have HR := Lib.hid (show decide (y.2.1 = x.fr ∧ y.2.2.1 = x.to_) = isX x y from rfl)
      rw [HR.out] at hclo
      unfold encC at hclo
      simp only [List.toArray] at hclo
      have HG := Lib.hid hg; have HNo := Lib.hid hno; have HB := Lib.hid hB
      clear hcell hg hyr hno hB
      cases hb : isX x y with
      | true =>
        rw [hb] at hclo
        go_wp2_with fail
        refine hclo.mono ?_
        rintro e w4 ⟨rfl, hB4⟩
        have HB4 := Lib.hid hB4
        clear hclo hB4 p0 p1 p2 p3 p4
        go_wp2_with fail
        go_ret
        exact ⟨k, rfl, .inr ⟨k, rfl, ⟨y, HG.out, hb⟩, HNo.out⟩, below_then HB.out HB.out.size HB4.out⟩
      | false =>
        rw [hb] at hclo
        go_wp2_with fail
        refine hclo.mono ?_
        rintro e w4 ⟨rfl, hB4⟩
        have HB4 := Lib.hid hB4
        clear hclo hB4 p0 p1 p2 p3 p4
        go_wp2_with fail
        go_roundw
        case rel =>
          refine ⟨k + 1, by omega, by go_num, fun j z hj hz => ?_, below_then HB.out HB.out.size HB4.out⟩
          by_cases hjk : j < k
          · exact HNo.out j z hjk hz
          · obtain rfl : j = k := by omega
            rw [HG.out] at hz
            rw [← Option.some.inj hz]; exact hb
        case measure => simp [intOf]; omega
    · obtain rfl : k = n := by omega
      have HB := Lib.hid hB; have HNo := Lib.hid hno
      clear hB hno
      go_wp2_with fail
      go_ret
      refine ⟨-1, rfl, .inl ⟨rfl, fun y hy => ?_⟩, HB.out⟩
      obtain ⟨j, hj⟩ := List.getElem?_of_mem hy
      exact HNo.out j y (by rw [HN.out]; exact (List.getElem?_eq_some_iff.1 hj).1) hj
end Go.Proofs.Ytanhibhcmfmeeaa.Se
/- clear over the tail of a row of changes; a row cut short. -/
namespace Go.Proofs.Ytanhibhcmfmeeaa.Se
open Go.RowKit Go.Proofs.YtanhibhcmfmeeaaW.PrintWords Go.Proofs.YtanhibhcmfmeeaaW.PrintMore Go.Proofs.Ytanhibhcmfmeeaa.Cut Go.Proofs.Ytanhibhcmfmeeaa.Fr Go.Proofs.Ytanhibhcmfmeeaa.SlK Go.Proofs.Ytanhibhcmfmeeaa.Flo
theorem own_setCells {base sz n cap g : Nat} {t : TypeId} : ∀ (vs : List Value) (o : Nat) (w : World) (xs : List Value), w.ownsRow base t sz (.slice (some ⟨g, 0, none⟩) n cap) n xs → ∃ xs', (w.setCells g o vs).ownsRow base t sz (.slice (some ⟨g, 0, none⟩) n cap) n xs' ∧ xs'.take o = xs.take o ∧ w.grownBy (w.setCells g o vs) (some g)
  | [], o, w, xs, h => ⟨xs, h, rfl, ⟨rfl, rfl, rfl, Nat.le_refl _, fun _ _ _ => rfl⟩⟩
  | v :: r, o, w, xs, h => by
    obtain ⟨h1, g1⟩ := h.stored o v
    obtain ⟨xs', h2, e2, g2⟩ := own_setCells r (o + 1) _ _ h1
    refine ⟨xs', h2, ?_, g1.trans g2⟩
    have := congrArg (List.take o) e2
    rw [List.take_take, List.take_take, Nat.min_eq_left (by omega), List.take_set_of_le (Nat.le_refl _)] at this
    exact this
theorem own_cut {w : World} {base sz n cap g m : Nat} {t : TypeId} {xs : List Value} (h : w.ownsRow base t sz (.slice (some ⟨g, 0, none⟩) n cap) n xs) (hm : m ≤ n) (hx : xs.length = n * sz) : w.ownsRow base t sz (.slice (some ⟨g, 0, none⟩) m cap) m (xs.take (m * sz)) := by
  rcases h.2 with ⟨h0, _⟩ | ⟨g', cap', cur, he, hg, hh, h1, h2, h3, h4⟩
  · simp at h0
  · simp only [Value.slice.injEq, Option.some.injEq, Addr.mk.injEq, and_true, true_and] at he
    obtain ⟨rfl, rfl⟩ := he
    have hle : m * sz ≤ n * sz := Nat.mul_le_mul_right _ hm
    refine ⟨by rw [List.length_take, hx, Nat.min_eq_left hle], .inr ⟨g, cap, cur, rfl, hg, hh, by omega, h2, h3, ?_⟩⟩
    rw [← h4, List.take_take, Nat.min_eq_left hle]
set_option maxRecDepth 100000 in
theorem zero_chg (w : World) : (zeroValue 50).run Try.prog w = .ok (.agg #[.int .i64 0, .int .i64 0, .int .i64 0, .int .i64 0, .bool false]) w := by kernel_rfl
theorem zc_one (k : Nat) : ∀ v ∈ (Builtin.zeroCells (Value.agg #[.int .i64 0, .int .i64 0, .int .i64 0, .int .i64 0, .bool false]).cells k).toList, v.oneCell' = true := by
  intro v hv
  have e : (Value.agg #[.int .i64 0, .int .i64 0, .int .i64 0, .int .i64 0, .bool false]).cells = #[.int .i64 0, .int .i64 0, .int .i64 0, .int .i64 0, .bool false] := by rfl
  rw [e] at hv
  simp only [Builtin.zeroCells, Array.toList_map, List.mem_map] at hv
  obtain ⟨i, _, rfl⟩ := hv
  have h : i % 5 = 0 ∨ i % 5 = 1 ∨ i % 5 = 2 ∨ i % 5 = 3 ∨ i % 5 = 4 := by omega
  show (#[Value.int .i64 0, .int .i64 0, .int .i64 0, .int .i64 0, .bool false][i % 5]!).oneCell' = true
  rcases h with h | h | h | h | h <;> rw [h] <;> rfl
theorem zc_len (k : Nat) : (Builtin.zeroCells (Value.agg #[.int .i64 0, .int .i64 0, .int .i64 0, .int .i64 0, .bool false]).cells k).toList.length = k * 5 := by
  have e : (Value.agg #[.int .i64 0, .int .i64 0, .int .i64 0, .int .i64 0, .bool false]).cells = #[.int .i64 0, .int .i64 0, .int .i64 0, .int .i64 0, .bool false] := by rfl
  rw [e]
  simp [Builtin.zeroCells]
theorem run_clear5 (w : World) (ty : TypeId) (b o k c : Nat) (hk : 0 < k) (hc : ∀ j, j < k * 5 → (w.cell? ⟨b, o + j, none⟩).isSome = true) (hf : ∀ j, j < k * 5 → w.frozen? ⟨b, o + j, none⟩ = false) :
    ∃ vs, (Builtin.clear_ #[37] ty #[.slice (some ⟨b, o, none⟩) k c]).run Try.prog w = .ok (.tuple #[]) (w.setCells b o vs) := by
  obtain ⟨zs, hzs⟩ : ∃ zs, zs = (Builtin.zeroCells (Value.agg #[.int .i64 0, .int .i64 0, .int .i64 0, .int .i64 0, .bool false]).cells k).toList := ⟨_, rfl⟩
  have hl := zc_len k
  have h1 := zc_one k
  rw [← hzs] at hl h1
  have hst := run_storeCells_cells (P := Try.prog) b o zs 0 w (fun j hj => by rw [hl] at hj; exact hc j hj) (fun j hj => by rw [hl] at hj; exact hf j hj) h1
  simp only [Nat.add_zero] at hst
  obtain ⟨m, rfl⟩ : ∃ m, k = m + 1 := ⟨k - 1, by omega⟩
  refine ⟨zs, ?_⟩
  simp [Builtin.clear_, run_underlying Try.underlying37, ← hzs, hst]
end Go.Proofs.Ytanhibhcmfmeeaa.Se
/- slices.DeleteFunc over changes, with the closure of Put. -/
namespace Go.Proofs.Ytanhibhcmfmeeaa.Se
open Go.RowKit Go.Proofs.YtanhibhcmfmeeaaW.PrintWords Go.Proofs.YtanhibhcmfmeeaaW.PrintMore Go.Proofs.Ytanhibhcmfmeeaa.Cut Go.Proofs.Ytanhibhcmfmeeaa.Fr Go.Proofs.Ytanhibhcmfmeeaa.SlK Go.Proofs.Ytanhibhcmfmeeaa.Flo
open Go.Proofs.Ytanhibhcmfmeeaa.SlD (kept Run)
def DelP (w : World) (base : Nat) (v : Value) (ks : List T5) (e : Ending) (w' : World) : Prop :=
  ∃ v', e = .returned v' ∧ w'.ownsRow base 50 5 v' ks.length (ks.flatMap encC) ∧ w.grownBy w' v.ownBlock ∧ (v'.ownBlock = v.ownBlock ∨ v'.ownBlock = none)
theorem own_grown {w w' : World} {base sz n : Nat} {t : TypeId} {v : Value} {xs : List Value} {k : Nat} (h : w.ownsRow base t sz v n xs) (hb : Below k w w') (hk : w.heap.size ≤ k) : w'.ownsRow base t sz v n xs :=
  own_move h fun j hj => hb.block j (by have := own_lt h j hj; omega)
set_option maxRecDepth 100000 in
set_option maxHeartbeats 8000000 in
theorem del_calls {w : World} {base : Nat} {v : Value} {ys : List T5} (hown : w.ownsRow base 50 5 v ys.length (ys.flatMap encC)) (hl : ys.length ≤ 1000000) (hy : ∀ y ∈ ys, Rt y.2.1 ∧ Rt y.2.2.1) (x : S4) (hx : Rt x.fr ∧ Rt x.to_) (xb : Nat) (hc : w.cell? ⟨xb, 1, none⟩ = some (.complex .f64 (wd x.fr) (wd x.to_))) (hxb : some xb ≠ v.ownBlock) :
    Calls Try.prog 57 #[v, .func (.func 58) #[] #[.pointer (some ⟨xb, 0, none⟩)]] w (DelP w base v (kept (isX x) ys)) := by
  have hix := ix_calls hown hl hy x hx xb hc
  obtain ⟨A, c, rfl, hnc, hcl⟩ := row_cells5 hown rfl
  have HC := Lib.hid hcl
  obtain ⟨n, hn⟩ : ∃ n, n = ys.length := ⟨_, rfl⟩
  rw [← hn] at hnc hl hix hown ⊢
  have HN := Lib.hid hn; have HY := Lib.hid hy; have HX := Lib.hid hx; have HK := Lib.hid hc; have HO := Lib.hid hown; have HXB := Lib.hid hxb
  clear hown hn hy hx hc hxb hcl
  go_enter Try.func57, Try.ntmps57
  go_wp2_with fail
  refine hix.mono ?_
  rintro e w1 ⟨r, rfl, hr, hB⟩
  have HB := Lib.hid hB
  clear hix hB
  rcases hr with ⟨rfl, hno⟩ | ⟨i0, rfl, ⟨y0, hy0, hp0⟩, hno⟩
  · have hk := SlD.kept_all hno
    have HKP := Lib.hid hk
    clear hno hk
    go_wp2_with fail
    go_ret
    refine ⟨_, rfl, ?_, ⟨HB.out.os, HB.out.tape, HB.out.output, HB.out.size, fun k hk _ => HB.out.block k hk⟩, .inl rfl⟩
    rw [HKP.out, ← HN.out]
    exact own_grown HO.out HB.out (Nat.le_refl _)
  · have hi0 : i0 < n := by rw [HN.out]; exact (List.getElem?_eq_some_iff.1 hy0).1
    have hst := Run.start hy0 hp0 hno
    have HST := Lib.hid hst
    have hne : ((i0 : Int) == -1) = false := beq_eq_false_iff_ne.2 (by omega)
    obtain ⟨g, rfl, _⟩ := HC.out i0 _ hy0
    clear hy0 hp0 hno hst HC
    have hxg : xb ≠ g := fun e => HXB.out (by rw [e]; rfl)
    go_wp2_with fail
    go_loopw [5, 6] (fun u5 u6 wx => ∃ (L : List T5) (i j : Nat), u5 = .int .i64 i ∧ u6 = .int .i64 j ∧ i < j ∧ Run (isX x) ys L i j ∧ wx.ownsRow base 50 5 (.slice (some ⟨g, 0, none⟩) n c) n (L.flatMap encC) ∧ w.grownBy wx (some g)) (fun _ u6 _ => n - (intOf u6).toNat)
    case atStart => exact ⟨ys, i0, i0 + 1, rfl, by go_num, by omega, HST.out, own_grown HO.out HB.out (Nat.le_refl _), ⟨HB.out.os, HB.out.tape, HB.out.output, HB.out.size, fun k hk _ => HB.out.block k hk⟩⟩
    case round =>
      obtain ⟨L, i, j, rfl, rfl, hij, hrun, hrow, hg⟩ := hrel
      have hjn : j ≤ n := by rw [HN.out]; exact hrun.le.2
      have hLn : n = L.length := by rw [HN.out, hrun.len]
      have HR := Lib.hid hrun; have HRW := Lib.hid hrow; have HG := Lib.hid hg
      have hxc : wr.cell? ⟨xb, 1, none⟩ = some (.complex .f64 (wd x.fr) (wd x.to_)) := (World.cell?_of_block (hg.block xb (World.block_lt_of_cell? w _ HK.out) (fun e => hxg (Option.some.inj e)))).trans HK.out
      clear HST HB
      by_cases hlt : j < n
      · have hlti : (j : Int) < (n : Int) := by omega
        have hil : (i : Int) < (n : Int) := by omega
        have hyj : ys[j]? = some ys[j] := List.getElem?_eq_getElem (by rw [← HN.out]; exact hlt)
        have hyr := HY.out _ (List.getElem_mem (show j < ys.length by rw [← HN.out]; exact hlt))
        generalize ys[j] = y at hyj hyr
        have hLj : L[j]? = some y := hrun.at.trans hyj
        obtain ⟨A', c', he, _, hcl⟩ := row_cells5 hrow hLn
        obtain ⟨g', hg', hcell⟩ := hcl j y hLj
        subst hg'
        simp only [Value.slice.injEq, Option.some.injEq, Addr.mk.injEq, and_true, true_and] at he
        obtain ⟨rfl, rfl⟩ := he
        obtain ⟨p0, p1, p2, p3, p4⟩ := hcell wr (Below.refl _ _)
        have HCL := Lib.hid hcl
        obtain ⟨W1, hW1⟩ : ∃ W, W = wr.alloc (.cells #[.int .i64 y.1, .int .i64 y.2.1, .int .i64 y.2.2.1, .int .i64 y.2.2.2.1, .bool y.2.2.2.2] 50) := ⟨_, rfl⟩
        have hb1 : Below wr.heap.size wr W1 := by rw [hW1]; exact below_alloc (Below.refl _ _) _
        have hr1 : W1.heap[wr.heap.size]? = some (.cells #[.int .i64 y.1, .int .i64 y.2.1, .int .i64 y.2.2.1, .int .i64 y.2.2.2.1, .bool y.2.2.2.2] 50 (0, 0)) := by rw [hW1]; exact (Go.MapKept.heap_alloc wr _).1
        have hclo := clo_put x HX.out y hyr xb W1 (keepB hb1 hxc)
        have HRR := Lib.hid (show decide (y.2.1 = x.fr ∧ y.2.2.1 = x.to_) = isX x y from rfl)
        rw [HRR.out] at hclo
        unfold encC at hclo
        simp only [List.toArray] at hclo
        obtain ⟨q0, q1, q2, q3, q4⟩ : W1.cell? ⟨wr.heap.size, 0, none⟩ = some (.int .i64 y.1) ∧ W1.cell? ⟨wr.heap.size, 1, none⟩ = some (.int .i64 y.2.1) ∧ W1.cell? ⟨wr.heap.size, 2, none⟩ = some (.int .i64 y.2.2.1) ∧ W1.cell? ⟨wr.heap.size, 3, none⟩ = some (.int .i64 y.2.2.2.1) ∧ W1.cell? ⟨wr.heap.size, 4, none⟩ = some (.bool y.2.2.2.2) := ⟨(blk_cell hr1 0).trans rfl, (blk_cell hr1 1).trans rfl, (blk_cell hr1 2).trans rfl, (blk_cell hr1 3).trans rfl, (blk_cell hr1 4).trans rfl⟩
        have HLN := Lib.hid hLn
        have HYJ := Lib.hid hyj; have HW1 := Lib.hid hW1; have HB1 := Lib.hid hb1; have HR1 := Lib.hid hr1
        clear hLn hcl hcell hyj hyr hW1 hb1 hr1 hrun hrow hg hLj hxc
        cases hb : isX x y with
        | true =>
          rw [hb] at hclo
          go_upto_region 8 with fail
          rw [← HW1.out]
          go_wp2_with fail
          refine hclo.mono ?_
          rintro e w4 ⟨rfl, hB4⟩
          have HB4 := Lib.hid (below_then HB1.out HB1.out.size hB4)
          clear hclo hB4 p0 p1 p2 p3 p4 q0 q1 q2 q3 q4
          go_wp2_with fail
          go_roundw
          case rel => exact ⟨L, i, j + 1, rfl, by go_num, by omega, HR.out.skip HYJ.out hb, own_grown HRW.out HB4.out (Nat.le_refl _), HG.out.trans ⟨HB4.out.os, HB4.out.tape, HB4.out.output, HB4.out.size, fun k hk _ => HB4.out.block k hk⟩⟩
          case measure => simp [intOf]; omega
        | false =>
          rw [hb] at hclo
          go_upto_region 8 with fail
          rw [← HW1.out]
          go_wp2_with fail
          refine hclo.mono ?_
          rintro e w4 ⟨rfl, hB4⟩
          have hB5 := below_then HB1.out HB1.out.size hB4
          have hrow4 := own_grown HRW.out hB5 (Nat.le_refl _)
          obtain ⟨g2, hg2, hcell2⟩ := HCL.out i _ (List.getElem?_eq_getElem (show i < L.length by rw [← HLN.out]; omega))
          obtain rfl : g = g2 := by simpa using hg2
          obtain ⟨s0, s1, s2, s3, s4⟩ := hcell2 w4 hB5
          have hblk : ∃ cur : Array Value, w4.heap[g]? = some (.cells cur 50 (0, 0)) := own_typed hrow4 g rfl
          obtain ⟨cur, hblk⟩ := hblk
          have f0 := blk_frozen hblk (i * 5)
          have f1 := blk_frozen hblk (i * 5 + 1)
          have f2 := blk_frozen hblk (i * 5 + 2)
          have f3 := blk_frozen hblk (i * 5 + 3)
          have f4 := blk_frozen hblk (i * 5 + 4)
          obtain ⟨r0, r1, r2, r3, r4⟩ : w4.cell? ⟨wr.heap.size, 0, none⟩ = some (.int .i64 y.1) ∧ w4.cell? ⟨wr.heap.size, 1, none⟩ = some (.int .i64 y.2.1) ∧ w4.cell? ⟨wr.heap.size, 2, none⟩ = some (.int .i64 y.2.2.1) ∧ w4.cell? ⟨wr.heap.size, 3, none⟩ = some (.int .i64 y.2.2.2.1) ∧ w4.cell? ⟨wr.heap.size, 4, none⟩ = some (.bool y.2.2.2.2) := ⟨keepB hB4 q0, keepB hB4 q1, keepB hB4 q2, keepB hB4 q3, keepB hB4 q4⟩
          have HROW := Lib.hid hrow4; have HB5 := Lib.hid hB5
          have hi0 : (0 : Int) ≤ (i : Int) := by omega
          clear hclo hB4 hB5 hrow4 hblk hcell2 hg2 p0 p1 p2 p3 p4 q0 q1 q2 q3 q4
          go_wp2_with fail
          have h1 := (HROW.out.stored (i * 5) (.int .i64 y.1)).1
          have h2 := (h1.stored (i * 5 + 1) (.int .i64 y.2.1)).1
          have h3 := (h2.stored (i * 5 + 2) (.int .i64 y.2.2.1)).1
          have h4 := (h3.stored (i * 5 + 3) (.int .i64 y.2.2.2.1)).1
          have h5 := (h4.stored (i * 5 + 4) (.bool y.2.2.2.2)).1
          have g1 := (HROW.out.stored (i * 5) (.int .i64 y.1)).2
          have g2 := g1.trans (h1.stored (i * 5 + 1) (.int .i64 y.2.1)).2
          have g3 := g2.trans (h2.stored (i * 5 + 2) (.int .i64 y.2.2.1)).2
          have g4 := g3.trans (h3.stored (i * 5 + 3) (.int .i64 y.2.2.2.1)).2
          have g5 := g4.trans (h4.stored (i * 5 + 4) (.bool y.2.2.2.2)).2
          rw [SlD.fm_set5 encC_len (y := y) rfl L i (by rw [← HLN.out]; omega)] at h5
          have HF := Lib.hid (And.intro h5 (HG.out.trans (World.grownBy.trans ⟨HB5.out.os, HB5.out.tape, HB5.out.output, HB5.out.size, fun k hk _ => HB5.out.block k hk⟩ g5)))
          clear h1 h2 h3 h4 h5 g1 g2 g3 g4 g5 s0 s1 s2 s3 s4 f0 f1 f2 f3 f4 r0 r1 r2 r3 r4 cur
          go_roundw
          case rel => exact ⟨L.set i y, i + 1, j + 1, by go_num, by go_num, by omega, HR.out.keep HYJ.out hb, HF.out.1, HF.out.2⟩
          case measure => simp [intOf]; omega
      · obtain rfl : j = n := by omega
        have hin : i < j := hij
        have HLN := Lib.hid hLn
        have hd := hrun
        rw [HN.out] at hd
        have HD := Lib.hid hd.done
        have hini : (i : Int) < (j : Int) := by omega
        have hk0 : (0 : Int) ≤ (i : Int) := by omega
        obtain ⟨cur, hblk⟩ : ∃ cur : Array Value, wr.heap[g]? = some (.cells cur 50 (0, 0)) := own_typed hrow g rfl
        have hcs : ∀ q, q < (j - i) * 5 → (wr.cell? ⟨g, i * 5 + q, none⟩).isSome = true := fun q hq => by
          rw [blk_cell hblk]
          rcases hrow.2 with ⟨h0, _⟩ | ⟨g', cap', cur', he, _, hh, _, _, h3, h4⟩
          · simp at h0
          · simp only [Value.slice.injEq, Option.some.injEq, Addr.mk.injEq, and_true, true_and] at he
            obtain ⟨rfl, rfl⟩ := he
            rw [hblk] at hh
            injection hh with hh
            injection hh with hh
            subst hh
            rw [Array.getElem?_eq_getElem (by rw [h3]; omega)]
            rfl
        obtain ⟨vs, hvs⟩ := run_clear5 wr 0 g (i * 5) (j - i) (c - i) (by omega) hcs (fun q _ => blk_frozen hblk _)
        obtain ⟨xs', hown', hx', hg'⟩ := own_setCells vs (i * 5) wr _ hrow
        generalize wr.setCells g (i * 5) vs = W5 at hvs hown' hg'
        have HF := Lib.hid (And.intro hown' (And.intro hx' hg'))
        clear hd hLn hrun hrow hg hxc hcs hblk cur hown' hx' hg'
        go_wp2_with fail
        go_ret
        have hcut := own_cut HF.out.1 (show i ≤ j by omega) (by have h1 := HF.out.1.1; omega)
        rw [HF.out.2.1, SlD.fm_take encC_len, HD.out.1] at hcut
        refine ⟨_, rfl, ?_, HG.out.trans HF.out.2.2, .inl rfl⟩
        rw [← HD.out.2]
        exact hcut
end Go.Proofs.Ytanhibhcmfmeeaa.Se
/- Put, plain: its walk over the row, session by session. -/
namespace Go.Proofs.Ytanhibhcmfmeeaa.Se
open Go.RowKit Go.Proofs.YtanhibhcmfmeeaaW.PrintWords
theorem stay_yes {gap key time : Int} {l : L4} {x : S4} (h : touchB gap key time x = true) : stay gap key time (l ++ [x]) = stay gap key time l := by
  unfold stay
  rw [List.filter_append, List.filter_cons_of_neg (by rw [h]; decide), List.filter_nil, List.append_nil]
theorem stay_no {gap key time : Int} {l : L4} {x : S4} (h : touchB gap key time x = false) : stay gap key time (l ++ [x]) = stay gap key time l ++ [x] := by
  unfold stay
  rw [List.filter_append, List.filter_cons_of_pos (by rw [h]; rfl), List.filter_nil]
theorem first_yes {gap key time : Int} {l : L4} {x : S4} (h : touchB gap key time x = true) : firstF gap key time (l ++ [x]) = min (firstF gap key time l) x.fr := by
  unfold firstF
  rw [hits_yes h, List.foldl_append]; rfl
theorem last_yes {gap key time : Int} {l : L4} {x : S4} (h : touchB gap key time x = true) : lastF gap key time (l ++ [x]) = max (lastF gap key time l) x.to_ := by
  unfold lastF
  rw [hits_yes h, List.foldl_append]; rfl
theorem first_no {gap key time : Int} {l : L4} {x : S4} (h : touchB gap key time x = false) : firstF gap key time (l ++ [x]) = firstF gap key time l := by
  unfold firstF
  rw [hits_no h]
theorem last_no {gap key time : Int} {l : L4} {x : S4} (h : touchB gap key time x = false) : lastF gap key time (l ++ [x]) = lastF gap key time l := by
  unfold lastF
  rw [hits_no h]
theorem fold_min (m : L4) : ∀ t : Int, 0 ≤ t → (∀ x ∈ m, 0 ≤ x.fr) → 0 ≤ m.foldl (fun a x => min a x.fr) t ∧ m.foldl (fun a x => min a x.fr) t ≤ t := by
  induction m with
  | nil => intro t h _; exact ⟨h, Int.le_refl _⟩
  | cons y r ih =>
    intro t h hx
    have h1 := hx y List.mem_cons_self
    obtain ⟨a, b⟩ := ih (min t y.fr) (by omega) fun x hm => hx x (List.mem_cons_of_mem _ hm)
    rw [List.foldl_cons]
    omega
theorem fold_max (m : L4) (c : Int) : ∀ t : Int, t ≤ c → (∀ x ∈ m, x.to_ ≤ c) → t ≤ m.foldl (fun a x => max a x.to_) t ∧ m.foldl (fun a x => max a x.to_) t ≤ c := by
  induction m with
  | nil => intro t h _; exact ⟨Int.le_refl _, h⟩
  | cons y r ih =>
    intro t h hx
    have h1 := hx y List.mem_cons_self
    obtain ⟨a, b⟩ := ih (max t y.to_) (by omega) fun x hm => hx x (List.mem_cons_of_mem _ hm)
    rw [List.foldl_cons]
    omega
theorem stay_len (gap key time : Int) (l : L4) : (stay gap key time l).length + (hits gap key time l).length = l.length := by
  unfold stay hits
  induction l with
  | nil => rfl
  | cons x r ih =>
    by_cases h : touchB gap key time x = true
    · rw [List.filter_cons_of_neg (by rw [h]; decide), List.filter_cons_of_pos h, List.length_cons, List.length_cons]; omega
    · have h' : touchB gap key time x = false := by simpa using h
      rw [List.filter_cons_of_pos (by rw [h']; rfl), List.filter_cons_of_neg h, List.length_cons, List.length_cons]; omega
theorem mem_hits {gap key time : Int} {l : L4} {x : S4} : x ∈ hits gap key time l ↔ x ∈ l ∧ touchB gap key time x = true := List.mem_filter
theorem mem_stay {gap key time : Int} {l : L4} {x : S4} : x ∈ stay gap key time l ↔ x ∈ l ∧ touchB gap key time x = false := by
  unfold stay
  rw [List.mem_filter]
  simp
theorem ends_wf (gap key time : Int) (l : L4) (hw : ∀ x ∈ l, Wf x) (ht : 0 ≤ time ∧ time ≤ 1099511627776) : Rt (firstF gap key time l) ∧ Rt (lastF gap key time l) ∧ firstF gap key time l ≤ time ∧ time ≤ lastF gap key time l := by
  have hh : ∀ x ∈ hits gap key time l, Wf x := fun x hx => hw x (mem_hits.1 hx).1
  obtain ⟨a, b⟩ := fold_min (hits gap key time l) time ht.1 fun x hx => (hh x hx).1.1
  obtain ⟨c, d⟩ := fold_max (hits gap key time l) 1099511627776 time ht.2 fun x hx => (hh x hx).2.2
  unfold firstF lastF Rt
  omega
theorem new_wf (gap key time val : Int) (l : L4) (hw : ∀ x ∈ l, Wf x) (ht : 0 ≤ time ∧ time ≤ 1099511627776) : Wf (newS gap key time val l) := by
  obtain ⟨a, b, _⟩ := ends_wf gap key time l hw ht
  exact ⟨a, b⟩
/-- The new session stands for none that stays. -/
theorem new_far (gap key time val : Int) (l : L4) (hg : 1 ≤ gap) (hw : ∀ x ∈ l, Wf x) (ht : 0 ≤ time ∧ time ≤ 1099511627776) : has (stay gap key time l) (newS gap key time val l).at = false := by
  rw [Bool.eq_false_iff]
  intro h
  obtain ⟨y, hy, e⟩ := has_iff.1 h
  obtain ⟨_, _, h1, h2⟩ := ends_wf gap key time l hw ht
  have hn := (mem_stay.1 hy).2
  have e1 : y.key = key := congrArg Prod.fst e
  have e2 : y.fr = firstF gap key time l := congrArg (fun p => p.2.1) e
  have e3 : y.to_ = lastF gap key time l := congrArg (fun p => p.2.2) e
  have : touchB gap key time y = true := decide_eq_true ⟨e1, by omega, by omega⟩
  rw [this] at hn
  cases hn
theorem sorted_stay {gap key time : Int} {l : L4} (h : Sorted l) : Sorted (stay gap key time l) := List.Pairwise.filter _ h
theorem wf_stay {gap key time : Int} {l : L4} (h : ∀ x ∈ l, Wf x) : ∀ x ∈ stay gap key time l, Wf x := fun x hx => h x (mem_stay.1 hx).1
/-- What DeleteFunc leaves of what is gone, and the new one behind it. -/
theorem out_eq (gap key time val : Int) (l : L4) : SlD.kept (isX (newS gap key time val l)) ((hits gap key time l).map goneT) ++ [chgT (newS gap key time val l)] = outT gap key time val l := by
  unfold outT SlD.kept
  rw [List.filter_map]
  rfl
theorem own_lower {w : World} {b0 b1 sz n : Nat} {t : TypeId} {v : Value} {xs : List Value} (h : w.ownsRow b1 t sz v n xs) (hb : b0 ≤ b1) : w.ownsRow b0 t sz v n xs := by
  obtain ⟨h1, h2⟩ := h
  refine ⟨h1, ?_⟩
  rcases h2 with h2 | ⟨g, cap, cur, hv, hg, r⟩
  · exact .inl h2
  · exact .inr ⟨g, cap, cur, hv, Nat.le_trans hb hg, r⟩
end Go.Proofs.Ytanhibhcmfmeeaa.Se
/- Rows beside each other: an append to one leaves the other; the end of Put. -/
namespace Go.Proofs.Ytanhibhcmfmeeaa.Se
open Go.RowKit Go.Proofs.YtanhibhcmfmeeaaW.PrintWords Go.Proofs.YtanhibhcmfmeeaaW.PrintMore Go.Proofs.Ytanhibhcmfmeeaa.Cut Go.Proofs.Ytanhibhcmfmeeaa.Fr Go.Proofs.Ytanhibhcmfmeeaa.SlK Go.Proofs.Ytanhibhcmfmeeaa.Flo
set_option maxRecDepth 100000 in
theorem infoS : (Try.prog.info? 113).map (fun i => (i.zero, i.size, i.bytes)) = some (some (.agg #[.int .i64 0, .complex .f64 0 0, .int .i64 0]), 3, 32) := by kernel_rfl
theorem encS1 (x : S4) : ∀ u ∈ encS x, u.oneCell' = true := fun u hu => by
  simp only [encS, List.mem_cons, List.not_mem_nil, or_false] at hu
  rcases hu with rfl | rfl | rfl <;> rfl
theorem encC1 (x : T5) : ∀ u ∈ encC x, u.oneCell' = true := fun u hu => by
  simp only [encC, List.mem_cons, List.not_mem_nil, or_false] at hu
  rcases hu with rfl | rfl | rfl | rfl | rfl <;> rfl
theorem own_side {w w1 : World} {base base2 sz sz2 n n2 : Nat} {t t2 : TypeId} {v v2 : Value} {xs xs2 : List Value} (h1 : w.ownsRow base t sz v n xs) (h2 : w.ownsRow base2 t2 sz2 v2 n2 xs2) (hne : t ≠ t2) (hg : w.grownBy w1 v2.ownBlock) : w1.ownsRow base t sz v n xs :=
  own_move h1 fun k hk => hg.block k (own_lt h1 k hk) fun e => by
    obtain ⟨c1, hc1⟩ := own_typed h1 k hk
    obtain ⟨c2, hc2⟩ := own_typed h2 k e.symm
    rw [hc1] at hc2
    injection hc2 with hc2
    injection hc2 with _ hc2
    exact hne hc2
theorem own_snoc {α : Type} {enc : α → List Value} {w : World} {base sz : Nat} {t : TypeId} {v : Value} {m : List α} {x : α} (h : w.ownsRow base t sz v (m.length + 1) (m.flatMap enc ++ enc x)) : w.ownsRow base t sz v (m ++ [x]).length ((m ++ [x]).flatMap enc) := by
  have e : (m ++ [x]).flatMap enc = m.flatMap enc ++ enc x := by simp
  rw [e, List.length_append]; exact h
theorem fm_drop {α : Type} {enc : α → List Value} {K : Nat} (h : ∀ x, (enc x).length = K) : ∀ (l : List α) (i : Nat), (l.flatMap enc).drop (i * K) = (l.drop i).flatMap enc
  | [], i => by simp
  | x :: r, 0 => by simp
  | x :: r, i + 1 => by
    rw [List.flatMap_cons, List.drop_succ_cons, ← fm_drop h r i, Nat.add_mul, Nat.one_mul, List.drop_append]
    rw [List.drop_eq_nil_of_le (by rw [h]; omega), h, List.nil_append]
    congr 1; omega
theorem row5_of {w : World} {base : Nat} {v : Value} {l : List T5} (h : w.ownsRow base 50 5 v l.length (l.flatMap encC)) : Row5 w base v l :=
  ⟨fun _ _ => trivial, l.flatMap encC, h, SlD.fm_len encC_len l, fun j p hj => by
    have e : ((l.flatMap encC).drop (j * 5)).take 5 = encC p := by
      obtain ⟨hl, rfl⟩ := List.getElem?_eq_some_iff.1 hj
      rw [fm_drop encC_len, List.drop_eq_getElem_cons hl, List.flatMap_cons, List.take_append_of_le_length (by simp [encC])]
      rfl
    show K5.M w base _ p (((l.flatMap encC).drop (j * 5)).take 5)
    rw [e]; exact K5_M _ _ _ _⟩
/-- The store behind Put's assignment of what stays. -/
theorem own_stay {w W : World} {B s : Nat} {room gap : Int} {l m : L4} {A : Option Addr} {c : Nat} {u : Value} (h : Own w B s room gap l (.slice A l.length c)) (hrow : W.heap[s]? = some (.cells #[.int .i64 room, .int .i64 gap, .slice A l.length c] 115 (0, 0))) (ho : W.ownsRow B 113 3 u m.length (m.flatMap encS)) (hm : Sorted m) (hwf : ∀ x ∈ m, Wf x) (hl : m.length ≤ 1024) :
    Own (W.setCell ⟨s, 2, none⟩ u) B s room gap m u := by
  refine ⟨blk_put hrow 2 _ rfl, ?_, hm, hwf, h.rng, hl, h.base⟩
  refine own_move ho fun k hk => Below.heap_setCell _ ⟨s, 2, none⟩ _ k fun e => ?_
  rw [show k = s from e] at hk
  obtain ⟨cells, hc⟩ := own_typed ho s hk
  rw [hrow] at hc
  injection hc with hc
  injection hc with _ hc
  exact absurd hc (by decide)
end Go.Proofs.Ytanhibhcmfmeeaa.Se
/- Put where there is room. -/
namespace Go.Proofs.Ytanhibhcmfmeeaa.Se
open Go.RowKit Go.Proofs.YtanhibhcmfmeeaaW.PrintWords Go.Proofs.YtanhibhcmfmeeaaW.PrintMore Go.Proofs.Ytanhibhcmfmeeaa.Cut Go.Proofs.Ytanhibhcmfmeeaa.Fr Go.Proofs.Ytanhibhcmfmeeaa.SlK Go.Proofs.Ytanhibhcmfmeeaa.Flo
attribute [local go_sem] run_store_complex
def PutP (w : World) (B s : Nat) (room gap : Int) (l : L4) (v : Value) (key time val : Int) (e : Ending) (w' : World) : Prop :=
  ∃ u v', e = .returned (.tuple #[u, .int .i64 0]) ∧ Row5 w' w.heap.size u (outT gap key time val l) ∧ Own w' B s room gap (putL gap key time val l) v' ∧ Mv w w' (F s v) (F s v')
set_option maxRecDepth 100000 in
set_option maxHeartbeats 16000000 in
theorem put_ok {w : World} {B s : Nat} {room gap : Int} {l : L4} {v : Value} (h : Own w B s room gap l v) (key time val : Int) (ht : mayT time = true) (hf : hits gap key time l = [] → (l.length : Int) < room) :
    Calls Try.prog 40 #[.pointer (some ⟨s, 0, none⟩), .int .i64 key, .int .i64 time, .int .i64 val] w (PutP w B s room gap l v key time val) := by
  have hm := may_calls time w
  rw [ht] at hm
  have HTT := Lib.hid ht; have HF0 := Lib.hid hf
  have hfi := find_calls (h.below (below_drew (Below.refl w.heap.size w))) key time ht
  obtain ⟨c0, c1, c2⟩ := h.cells
  have HO := Lib.hid h
  have hfit := h.fits
  obtain ⟨A, c, rfl, hc, hcl⟩ := row_cells h.ses
  obtain ⟨n, hn⟩ : ∃ n, n = l.length := ⟨_, rfl⟩
  rw [← hn] at hc hfit c2
  have HN := Lib.hid hn; have HC := Lib.hid hcl; have C1 := Lib.hid c1; have C2 := Lib.hid c2
  have hcut : True := trivial
  clear h hn hcl c1 hcut
  go_enter Try.func40, Try.ntmps40
  go_upto_region 5 with ((with_reducible refine hm.mono ?_); rintro e w1 ⟨rfl, rfl⟩)
  rename World => w
  clear hm
  go_cut [24] (fun u wx => u = .bool false ∧ Below w.heap.size w wx)
  case first =>
    by_cases hh : hits gap key time l = []
    · have hlt : ¬ room ≤ (n : Int) := by rw [HN.out]; have := hf hh; omega
      have hg : decide (room ≤ (n : Int)) = false := decide_eq_false hlt
      rw [show FindP w.drew gap key time l = FindP w.drew gap key time l from rfl] at hfi
      clear hf
      go_region_held3 (fun V => V.cell? ⟨s, 2, none⟩ = some (.slice A n c) ∧ V.cell? ⟨s, 0, none⟩ = some (.int .i64 room)) (go_keep)
        (first
        | (go_at_call 37; (with_reducible refine hfi.mono ?_); rintro e w4 ⟨u, rfl, hR, hB4⟩; rw [hh] at hR; obtain ⟨A4, c4, rfl, _, _⟩ := Kd.R_reads hR; have k0 := keepB hB4 c2; have k1 := keepB hB4 c0; have HB4 := Lib.hid hB4; clear hB4 hR))
      all_goals
        go_wp2_with fail
        go_meet
        case rel => exact ⟨rfl, below_then (below_drew (Below.refl w.heap.size w)) (Nat.le_refl _) HB4.out⟩
    · have hpz : (((hits gap key time l).length : Int) == 0) = false := beq_eq_false_iff_ne.2 (by
        have := List.length_pos_iff.2 hh
        omega)
      clear hf
      -- BEGIN BY HAND
      refine wp_region_held_drew (S := fun _ => True) (by kernel_rfl) trivial (fun hHeld => ?_)
      refine wpAnyH_take (i := 0) (v := ?v0) rfl (by kernel_rfl) (by kernel_rfl) (by kernel_rfl) (fun _ _ _ h => h) (Or.inl ⟨by rfl, ?h0⟩) (by trivial) ?r0
      case h0 => (intro w hSw; (try dsimp only at hSw); go_simp; first | done | with_reducible rfl)
      try simp only [Act.put, List.getElem_toArray, List.getElem_cons_zero, List.setIfInBounds_toArray, List.set_cons_zero, List.set_cons_succ]
      refine wpAnyH_take (i := 1) (v := ?v1) rfl (by kernel_rfl) (by kernel_rfl) (by kernel_rfl) (fun _ _ _ h => h) (Or.inl ⟨by rfl, ?h1⟩) (by trivial) ?r1
      case h1 => (intro w hSw; (try dsimp only at hSw); go_simp; first | done | with_reducible rfl)
      try simp only [Act.put, List.getElem_toArray, List.getElem_cons_zero, List.getElem_cons_succ, List.setIfInBounds_toArray, List.set_cons_zero, List.set_cons_succ]
      refine wpAnyH_take (i := 2) (v := ?v2) rfl (by kernel_rfl) (by kernel_rfl) (by kernel_rfl) (fun _ _ _ h => h) (Or.inl ⟨by rfl, ?h2⟩) (by trivial) ?r2
      case h2 => (intro w hSw; (try dsimp only at hSw); go_simp; first | done | with_reducible rfl)
      try simp only [Act.put, List.getElem_toArray, List.getElem_cons_zero, List.getElem_cons_succ, List.setIfInBounds_toArray, List.set_cons_zero, List.set_cons_succ]
      refine wpAnyH_ready (rs := [3]) (by kernel_rfl) (by simp) ?_
      refine AllReadyH.cons rfl (fun K hK => ?_) AllReadyH.nil
      go_simp
      refine hfi.mono ?_
      rintro e w4 ⟨u, rfl, hR, hB4⟩
      obtain ⟨A4, c4, rfl, _, _⟩ := Kd.R_reads hR
      have HB4 := Lib.hid hB4
      clear hB4 hR
      refine hK.out _ _ trivial (fun hHeld => ?_)
      clear hK K
      try simp only [Act.put, List.getElem_toArray, List.getElem_cons_zero, List.getElem_cons_succ, List.setIfInBounds_toArray, List.set_cons_zero, List.set_cons_succ]
      refine wpAnyH_take (i := 4) (v := ?v4) rfl (by kernel_rfl) (by kernel_rfl) (by kernel_rfl) (fun _ _ _ h => h) (Or.inl ⟨by rfl, ?h4⟩) (by trivial) ?r4
      case h4 => (intro w hSw; (try dsimp only at hSw); go_simp; first | done | with_reducible rfl)
      try simp only [Act.put, List.getElem_toArray, List.getElem_cons_zero, List.getElem_cons_succ, List.setIfInBounds_toArray, List.set_cons_zero, List.set_cons_succ]
      refine wpAnyH_take (i := 5) (v := ?v5) rfl (by kernel_rfl) (by kernel_rfl) (by kernel_rfl) (fun _ _ _ h => h) (Or.inl ⟨by rfl, ?h5⟩) (by trivial) ?r5
      case h5 => (intro w hSw; (try dsimp only at hSw); go_simp; first | done | with_reducible rfl)
      try simp only [Act.put, List.getElem_toArray, List.getElem_cons_zero, List.getElem_cons_succ, List.setIfInBounds_toArray, List.set_cons_zero, List.set_cons_succ]
      refine wpAnyH_take (i := 6) (v := ?v6) rfl (by kernel_rfl) (by kernel_rfl) (by kernel_rfl) (fun _ _ _ h => h) (Or.inl ⟨by rfl, ?h6⟩) (by trivial) ?r6
      case h6 => (intro w hSw; (try dsimp only at hSw); go_simp; first | done | with_reducible rfl)
      try simp only [Act.put, List.getElem_toArray, List.getElem_cons_zero, List.getElem_cons_succ, List.setIfInBounds_toArray, List.set_cons_zero, List.set_cons_succ]
      refine wpAnyH_take (i := 7) (v := undef) rfl (by kernel_rfl) (by kernel_rfl) (by kernel_rfl) (fun _ _ _ h => h) (Or.inr ⟨by rfl, rfl⟩) (by trivial) ?_
      try simp only [Act.put, List.getElem_toArray, List.getElem_cons_zero, List.getElem_cons_succ, List.setIfInBounds_toArray, List.set_cons_zero, List.set_cons_succ]
      refine wpAnyH_take (i := 8) (v := undef) rfl (by kernel_rfl) (by kernel_rfl) (by kernel_rfl) (fun _ _ _ h => h) (Or.inr ⟨by rfl, rfl⟩) (by trivial) ?_
      try simp only [Act.put, List.getElem_toArray, List.getElem_cons_zero, List.getElem_cons_succ, List.setIfInBounds_toArray, List.set_cons_zero, List.set_cons_succ]
      refine wpAnyH_take (i := 9) (v := undef) rfl (by kernel_rfl) (by kernel_rfl) (by kernel_rfl) (fun _ _ _ h => h) (Or.inr ⟨by rfl, rfl⟩) (by trivial) ?_
      try simp only [Act.put, List.getElem_toArray, List.getElem_cons_zero, List.getElem_cons_succ, List.setIfInBounds_toArray, List.set_cons_zero, List.set_cons_succ]
      refine wpAnyH_take (i := 10) (v := undef) rfl (by kernel_rfl) (by kernel_rfl) (by kernel_rfl) (fun _ _ _ h => h) (Or.inr ⟨by rfl, rfl⟩) (by trivial) ?_
      try simp only [Act.put, List.getElem_toArray, List.getElem_cons_zero, List.getElem_cons_succ, List.setIfInBounds_toArray, List.set_cons_zero, List.set_cons_succ]
      refine wpAnyH_take (i := 11) (v := undef) rfl (by kernel_rfl) (by kernel_rfl) (by kernel_rfl) (fun _ _ _ h => h) (Or.inr ⟨by rfl, rfl⟩) (by trivial) ?_
      try simp only [Act.put, List.getElem_toArray, List.getElem_cons_zero, List.getElem_cons_succ, List.setIfInBounds_toArray, List.set_cons_zero, List.set_cons_succ]
      refine wpAnyH_take (i := 12) (v := undef) rfl (by kernel_rfl) (by kernel_rfl) (by kernel_rfl) (fun _ _ _ h => h) (Or.inr ⟨by rfl, rfl⟩) (by trivial) ?_
      try simp only [Act.put, List.getElem_toArray, List.getElem_cons_zero, List.getElem_cons_succ, List.setIfInBounds_toArray, List.set_cons_zero, List.set_cons_succ]
      refine wpAnyH_take (i := 13) (v := undef) rfl (by kernel_rfl) (by kernel_rfl) (by kernel_rfl) (fun _ _ _ h => h) (Or.inr ⟨by rfl, rfl⟩) (by trivial) ?_
      try simp only [Act.put, List.getElem_toArray, List.getElem_cons_zero, List.getElem_cons_succ, List.setIfInBounds_toArray, List.set_cons_zero, List.set_cons_succ]
      refine wpAnyH_take (i := 14) (v := undef) rfl (by kernel_rfl) (by kernel_rfl) (by kernel_rfl) (fun _ _ _ h => h) (Or.inr ⟨by rfl, rfl⟩) (by trivial) ?_
      try simp only [Act.put, List.getElem_toArray, List.getElem_cons_zero, List.getElem_cons_succ, List.setIfInBounds_toArray, List.set_cons_zero, List.set_cons_succ]
      refine wpAnyH_take (i := 15) (v := undef) rfl (by kernel_rfl) (by kernel_rfl) (by kernel_rfl) (fun _ _ _ h => h) (Or.inr ⟨by rfl, rfl⟩) (by trivial) ?_
      try simp only [Act.put, List.getElem_toArray, List.getElem_cons_zero, List.getElem_cons_succ, List.setIfInBounds_toArray, List.set_cons_zero, List.set_cons_succ]
      refine wpAnyH_take (i := 16) (v := undef) rfl (by kernel_rfl) (by kernel_rfl) (by kernel_rfl) (fun _ _ _ h => h) (Or.inr ⟨by rfl, rfl⟩) (by trivial) ?_
      try simp only [Act.put, List.getElem_toArray, List.getElem_cons_zero, List.getElem_cons_succ, List.setIfInBounds_toArray, List.set_cons_zero, List.set_cons_succ]
      refine wpAnyH_take (i := 17) (v := ?v17) rfl (by kernel_rfl) (by kernel_rfl) (by kernel_rfl) (fun _ _ _ h => h) (Or.inl ⟨by rfl, ?h17⟩) (by trivial) ?r17
      case h17 => (intro w hSw; (try dsimp only at hSw); go_simp; first | done | with_reducible rfl)
      try simp only [Act.put, List.getElem_toArray, List.getElem_cons_zero, List.getElem_cons_succ, List.setIfInBounds_toArray, List.set_cons_zero, List.set_cons_succ]
      refine wpAnyH_take (i := 18) (v := ?v18) rfl (by kernel_rfl) (by kernel_rfl) (by kernel_rfl) (fun _ _ _ h => h) (Or.inl ⟨by rfl, ?h18⟩) (by trivial) ?r18
      case h18 => (intro w hSw; (try dsimp only at hSw); go_simp; first | done | with_reducible rfl)
      try simp only [Act.put, List.getElem_toArray, List.getElem_cons_zero, List.getElem_cons_succ, List.setIfInBounds_toArray, List.set_cons_zero, List.set_cons_succ]
      refine wpAnyH_done (by kernel_rfl) ?_ _
      go_wp2_with fail
      go_meet
      case rel => exact ⟨rfl, below_then (below_drew (Below.refl w.heap.size w)) (Nat.le_refl _) HB4.out⟩
  case rest =>
    obtain ⟨rfl, hBx⟩ := hcut
    rename World => wx
    have hO := HO.out.below hBx
    obtain ⟨_, _, d2⟩ := hO.cells
    rw [← HN.out] at d2
    have HBX := Lib.hid hBx
    clear hfi c0 c2 hBx hO
    go_wp2_with fail
    go_loopw [10, 11, 12, 13, 50] (fun u10 u11 u12 u13 u50 wy => ∃ k : Nat, k ≤ n ∧ u50 = .int .i64 k ∧ u10 = .int .i64 (firstF gap key time (l.take k)) ∧ u11 = .int .i64 (lastF gap key time (l.take k)) ∧
      wy.ownsRow w.heap.size 50 5 u12 (hits gap key time (l.take k)).length (((hits gap key time (l.take k)).map goneT).flatMap encC) ∧ wy.ownsRow w.heap.size 113 3 u13 (stay gap key time (l.take k)).length ((stay gap key time (l.take k)).flatMap encS) ∧ Below w.heap.size w wy) (fun _ _ _ _ u50 _ => n - (intOf u50).toNat)
    case atStart => exact ⟨0, Nat.zero_le _, rfl, rfl, rfl, own_nil _ _ _ _, own_nil _ _ _ _, HBX.out⟩
    case round =>
      obtain ⟨k, hk, rfl, rfl, rfl, hO12, hS13, hB⟩ := hrel
      by_cases hlt : k < n
      · have hlti : (k : Int) < (n : Int) := by omega
        have hk0 : (0 : Int) ≤ (k : Int) := by omega
        have hkl : k < l.length := by rw [← HN.out]; exact hlt
        have hx := List.getElem?_eq_getElem hkl
        have hxw := HO.out.wf _ (List.getElem_mem hkl)
        obtain ⟨g, rfl, hcell⟩ := HC.out k _ hx
        obtain ⟨p0, p1, p2⟩ := hcell wr hB
        have hts := take_snoc hx
        generalize l[k] = x at hx hxw p0 p1 p2 hts
        obtain ⟨W1, hW1⟩ : ∃ W, W = wr.alloc (sesRow x) := ⟨_, rfl⟩
        have hb1 : Below wr.heap.size wr W1 := by rw [hW1]; exact below_alloc (Below.refl _ _) _
        have hr1 : W1.heap[wr.heap.size]? = some (sesRow x) := by rw [hW1]; exact (Go.MapKept.heap_alloc wr _).1
        have HX := Lib.hid (Bx.of hr1)
        obtain ⟨x0, x1, x2⟩ := HX.out
        have htc := touches_calls (w := W1) (s := s) (keepB hb1 (keepB hB C1.out)) ⟨HO.out.rng.2.2.1, HO.out.rng.2.2.2⟩ x hxw key time
        unfold sesV at htc
        have HT := Lib.hid hts; have HW1 := Lib.hid hW1
        have HA := Lib.hid (And.intro (own_grown hO12 hb1 (Nat.le_refl _)) (And.intro (own_grown hS13 hb1 (Nat.le_refl _)) (below_then hB hB.size hb1)))
        have HXW := Lib.hid hxw
        have hls : (stay gap key time (l.take k)).length + (hits gap key time (l.take k)).length ≤ 1024 := by
          have h1 := stay_len gap key time (l.take k)
          have h2 := List.length_take_le k l
          have h3 := HO.out.fits
          omega
        clear hcell hx hO12 hS13 hB hW1 hb1 hr1 hts hxw HC
        cases hto : touchB gap key time x with
        | false =>
          rw [hto] at htc
          have HH := Lib.hid hto
          go_upto_region 13 with fail
          rw [← HW1.out]
          go_wp2_with fail
          refine htc.mono ?_
          rintro e w4 ⟨rfl, hB4⟩
          obtain ⟨y0, y1, y2⟩ := HX.out.below hB4
          have HO4 := Lib.hid (own_grown HA.out.1 hB4 (Nat.le_refl _)); have HS4 := Lib.hid (own_grown HA.out.2.1 hB4 (Nat.le_refl _)); have HB4 := Lib.hid (below_then HA.out.2.2 HA.out.2.2.size hB4)
          have hl32 : ((stay gap key time (l.take k)).length + 1) * 32 ≤ 140737488355328 := by omega
          clear htc hB4 x0 x1 x2 p0 p1 p2 HA HX HW1 hls
          go_wp2_with (first
            | ((with_reducible refine gate_builtin (b := .append) (xs := #[.tmp 60, .tmp 62]) rfl ?_); at_builtin; refine print_append_cells (w0 := w) w.heap.size rfl (.tmp 60) (.tmp 62) 109 113 (.agg #[.int .i64 0, .complex .f64 0 0, .int .i64 0]) 3 32 rfl Try.underlying109 infoS rfl (by decide) (by decide) u13 (stay gap key time (l.take k)).length ((stay gap key time (l.take k)).flatMap encS) (encS x) rfl rfl rfl (encS1 x) HS4.out HB4.out HB4.out.size hl32 ?_; intro v1 w6 hown6 hb6 hg6 hat6)
            | go_in)
          have HF := Lib.hid (And.intro (own_side HO4.out HS4.out (by decide) hg6) (And.intro (own_snoc hown6) hb6))
          clear hown6 hb6 hg6 hat6 HO4 HS4 HB4 y0 y1 y2
          go_wp2_with fail
          go_roundw
          case rel => exact ⟨k + 1, by omega, by go_num, by rw [HT.out, first_no HH.out], by rw [HT.out, last_no HH.out], by rw [HT.out, hits_no HH.out]; exact HF.out.1, by rw [HT.out, stay_no HH.out]; exact HF.out.2.1, HF.out.2.2⟩
          case measure => simp [intOf]; omega
        | true =>
          rw [hto] at htc
          have HH := Lib.hid hto
          go_upto_region 13 with fail
          rw [← HW1.out]
          go_wp2_with fail
          refine htc.mono ?_
          rintro e w4 ⟨rfl, hB4⟩
          obtain ⟨y0, y1, y2⟩ := HX.out.below hB4
          have HX4 := Lib.hid (HX.out.below hB4)
          have HO4 := Lib.hid (own_grown HA.out.1 hB4 (Nat.le_refl _)); have HS4 := Lib.hid (own_grown HA.out.2.1 hB4 (Nat.le_refl _)); have HB4 := Lib.hid (below_then HA.out.2.2 HA.out.2.2.size hB4)
          clear htc hB4 x0 x1 x2 p0 p1 p2
          go_upto_region 15 with fail
          have hf := fun V => from_calls x HXW.out V
          have ht := fun V => to_calls x HXW.out V
          unfold sesV at hf ht
          go_cut [10, 11] (fun u10 u11 wx => u10 = .int .i64 (min (firstF gap key time (l.take k)) x.fr) ∧ u11 = .int .i64 (max (lastF gap key time (l.take k)) x.to_) ∧ Below w4.heap.size w4 wx)
          case first =>
            go_region_held3 (fun V => V.cell? ⟨wr.heap.size, 0, none⟩ = some (.int .i64 x.key) ∧ V.cell? ⟨wr.heap.size, 1, none⟩ = some (.complex .f64 (wd x.fr) (wd x.to_)) ∧ V.cell? ⟨wr.heap.size, 2, none⟩ = some (.int .i64 x.val)) (go_keep)
              (first
              | (go_at_call 55; (with_reducible refine (hf _).mono ?_); rintro e w5 ⟨rfl, hB5⟩; have HB5 := Lib.hid hB5; have k0 := keepB hB5 y0; have k1 := keepB hB5 y1; have k2 := keepB hB5 y2; clear hB5)
              | (go_at_call 46; (with_reducible refine (ht _).mono ?_); rintro e w6 ⟨rfl, hB6⟩; have HB6 := Lib.hid hB6; have k0 := keepB hB6 k0; have k1 := keepB hB6 k1; have k2 := keepB hB6 k2; clear hB6))
            all_goals
              go_wp2_with fail
              go_meet
              case rel =>
                have hb5 := below_then (below_drew (Below.refl w4.heap.size w4)) (Nat.le_refl _) HB5.out
                exact ⟨rfl, rfl, below_then hb5 hb5.size HB6.out⟩
          case rest =>
            obtain ⟨rfl, rfl, hBx⟩ := hcut
            rename World => wx
            obtain ⟨z0, z1, z2⟩ := HX4.out.below hBx
            have hgo := gone_calls x HXW.out wx
            unfold sesV goneV at hgo
            have HO5 := Lib.hid (own_grown HO4.out hBx (Nat.le_refl _)); have HS5 := Lib.hid (own_grown HS4.out hBx (Nat.le_refl _)); have HB5 := Lib.hid (below_then HB4.out HB4.out.size hBx)
            clear hBx HO4 HS4 HB4 HX4 y0 y1 y2 hf ht HA HX HW1
            go_wp2_with fail
            refine hgo.mono ?_
            rintro e w5 ⟨rfl, hB6⟩
            have HO6 := Lib.hid (own_grown HO5.out hB6 (Nat.le_refl _)); have HS6 := Lib.hid (own_grown HS5.out hB6 (Nat.le_refl _)); have HB6 := Lib.hid (below_then HB5.out HB5.out.size hB6)
            have hl40 : ((hits gap key time (l.take k)).length + 1) * 40 ≤ 140737488355328 := by omega
            clear hgo hB6 z0 z1 z2 HO5 HS5 HB5 hls
            go_wp2_with (first
              | ((with_reducible refine gate_builtin (b := .append) (xs := #[.tmp 72, .tmp 75]) rfl ?_); at_builtin; refine print_append_cells (w0 := w) w.heap.size rfl (.tmp 72) (.tmp 75) 37 50 (.agg #[.int .i64 0, .int .i64 0, .int .i64 0, .int .i64 0, .bool false]) 5 40 rfl Try.underlying37 infoC rfl (by decide) (by decide) u12 (hits gap key time (l.take k)).length (((hits gap key time (l.take k)).map goneT).flatMap encC) (encC (goneT x)) rfl rfl rfl (encC1 (goneT x)) HO6.out HB6.out HB6.out.size hl40 ?_; intro v1 w6 hown6 hb6 hg6 hat6)
              | go_in)
            have HF := Lib.hid (And.intro hown6 (And.intro (own_side HS6.out HO6.out (by decide) hg6) hb6))
            clear hown6 hb6 hg6 hat6 HO6 HS6 HB6
            go_wp2_with fail
            go_roundw
            case rel =>
              exact ⟨k + 1, by omega, by go_num, by rw [HT.out, first_yes HH.out], by rw [HT.out, last_yes HH.out], by
                rw [HT.out, hits_yes HH.out, List.map_append, List.length_append, List.flatMap_append]
                exact HF.out.1, by rw [HT.out, stay_yes HH.out]; exact HF.out.2.1, HF.out.2.2⟩
            case measure => simp [intOf]; omega
      · obtain rfl : k = n := by omega
        have htk : l.take k = l := by rw [HN.out]; exact List.take_length
        rw [htk] at hO12 hS13 ⊢
        have htt : 0 ≤ time ∧ time ≤ 1099511627776 := of_decide_eq_true HTT.out
        have hew := ends_wf gap key time l HO.out.wf htt
        have hnw := new_wf gap key time val l HO.out.wf htt
        have hnf := new_far gap key time val l HO.out.rng.2.2.1 HO.out.wf htt
        have hoe := out_eq gap key time val l
        have hxn : newS gap key time val l = ⟨key, firstF gap key time l, lastF gap key time l, val⟩ := rfl
        obtain ⟨f, hf⟩ : ∃ f, f = firstF gap key time l := ⟨_, rfl⟩
        obtain ⟨la, hla⟩ : ∃ la, la = lastF gap key time l := ⟨_, rfl⟩
        rw [← hf, ← hla] at hxn hew ⊢
        have hpl : putL gap key time val l = insS ⟨key, f, la, val⟩ (stay gap key time l) := by unfold putL; rw [hxn]
        rw [hxn] at hnw hnf hoe
        have hst := stay_len gap key time l
        have hstl : (stay gap key time l).length < 1024 := by
          by_cases hh : hits gap key time l = []
          · have h1 := HF0.out hh
            have h2 := HO.out.rng
            have h3 := List.length_filter_le (fun x => !touchB gap key time x) l
            have h4 : (stay gap key time l).length ≤ l.length := h3
            omega
          · have h1 := List.length_pos_iff.2 hh
            have h2 := HO.out.fits
            omega
        obtain ⟨W, hW⟩ : ∃ W, W = wr.alloc (sesRow ⟨key, f, la, val⟩) := ⟨_, rfl⟩
        have hbW : Below wr.heap.size wr W := by rw [hW]; exact below_alloc (Below.refl _ _) _
        have hrW : W.heap[wr.heap.size]? = some (sesRow ⟨key, f, la, val⟩) := by rw [hW]; exact (Go.MapKept.heap_alloc wr _).1
        have hOW := own_grown hO12 hbW (Nat.le_refl _)
        have hSW := own_grown hS13 hbW (Nat.le_refl _)
        have hne : some wr.heap.size ≠ u12.ownBlock := fun e => by have := own_lt hO12 _ e.symm; omega
        have hneS : some wr.heap.size ≠ u13.ownBlock := fun e => by have := own_lt hS13 _ e.symm; omega
        have hlW : wr.heap.size < W.heap.size := (Array.getElem?_eq_some_iff.1 hrW).1
        have hBW := below_then hB hB.size hbW
        have htm : Calls Try.prog 56 #[.int .i64 f, .int .i64 la] wr fun e w' => e = .returned (.complex .f64 (wd f) (wd la)) ∧ w' = wr := (times_calls f la wr).mono fun e w' h => ⟨h.1, h.2.symm⟩
        have hdel := del_calls (w := W) (base := w.heap.size) (v := u12) (ys := (hits gap key time l).map goneT) (by rw [List.length_map]; exact hOW) (by have := HO.out.fits; rw [List.length_map]; omega) (fun y hy => by
          obtain ⟨x, hx, rfl⟩ := List.mem_map.1 hy
          exact HO.out.wf x (mem_hits.1 hx).1) ⟨key, f, la, val⟩ hnw wr.heap.size ((blk_cell hrW 1).trans rfl) hne
        have hsl := (HO.out.lt s (.inl rfl)).2
        have HW := Lib.hid hW; have HRW := Lib.hid hrW
        have HR := Lib.hid (And.intro hOW (And.intro hSW (And.intro hne (And.intro hneS (And.intro hlW (And.intro hBW hB))))))
        have HP := Lib.hid (And.intro hnw (And.intro hnf (And.intro hoe (And.intro hpl hstl))))
        have HSL := Lib.hid hsl; have HST := Lib.hid hst
        clear htk hO12 hS13 hB htt hew hnw hnf hoe hxn hf hla hpl hst hstl hW hbW hrW hOW hSW hne hneS hlW hBW hsl
        go_upto_region 19 with ((with_reducible refine htm.mono ?_); rintro e w5 ⟨rfl, rfl⟩)
        rename World => wr
        rw [← HW.out]
        go_wp2_with fail
        refine hdel.mono ?_
        rintro e w5 ⟨v5, rfl, hown5, hg5, hat5⟩
        obtain ⟨A13, c13, hu13⟩ := own_slice HR.out.2.1
        subst hu13
        have hB5 := pw_below_grown HR.out.2.2.2.2.2.1 _ HR.out.2.2.2.2.2.1.size hg5 (own_base HR.out.1)
        have hrow5 := (hB5.block s HSL.out).trans HO.out.row
        have c2' : w5.cell? ⟨s, 2, none⟩ = some (.slice A l.length c) := (blk_cell hrow5 2).trans rfl
        have f2' := blk_frozen hrow5 2
        have hr5 := (hg5.block wr.heap.size HR.out.2.2.2.2.1 HR.out.2.2.1).trans HRW.out
        have hS5 := own_side HR.out.2.1 HR.out.1 (by decide) hg5
        have hO6 := own_stay (m := stay gap key time l) HO.out hrow5 (own_lower hS5 (Nat.le_of_lt (Nat.lt_of_le_of_lt HO.out.base HSL.out))) (sorted_stay HO.out.sorted) (wf_stay HO.out.wf) (Nat.le_of_lt HP.out.2.2.2.2)
        obtain ⟨W6, hW6⟩ : ∃ W6, W6 = w5.setCell ⟨s, 2, none⟩ (.slice A13 (stay gap key time l).length c13) := ⟨_, rfl⟩
        rw [← hW6] at hO6
        have hsz6 : W6.heap.size = w5.heap.size := by rw [hW6]; simp
        have hks : ∀ k, k ≠ s → W6.heap[k]? = w5.heap[k]? := fun k hk => by rw [hW6]; exact Below.heap_setCell _ ⟨s, 2, none⟩ _ k hk
        have hwr := HR.out.2.2.2.2.2.2.size
        have hr6 := (hks wr.heap.size (by have := HSL.out; omega)).trans hr5
        have b0 : W6.cell? ⟨wr.heap.size, 0, none⟩ = some (.int .i64 key) := (blk_cell hr6 0).trans rfl
        have b1 : W6.cell? ⟨wr.heap.size, 1, none⟩ = some (.complex .f64 (wd f) (wd la)) := (blk_cell hr6 1).trans rfl
        have b2 : W6.cell? ⟨wr.heap.size, 2, none⟩ = some (.int .i64 val) := (blk_cell hr6 2).trans rfl
        have hK6 := own_move hown5 (w1 := W6) fun k hk => hks k (by have := own_base hown5 k hk; have := HSL.out; omega)
        have hins := insert_calls hO6 ⟨key, f, la, val⟩ HP.out.1 HP.out.2.1 HP.out.2.2.2.2
        unfold sesV at hins
        have HW6 := Lib.hid hW6
        have H6 := Lib.hid (And.intro hO6 (And.intro hr6 (And.intro hK6 (And.intro hB5 (And.intro hsz6 (And.intro hks (And.intro hwr hS5)))))))
        clear hdel htm hown5 hg5 hat5 hB5 hrow5 hr5 hS5 hO6 hW6 hr6 hK6 hsz6 hks hwr
        go_upto_region 21 with fail
        rw [← HW6.out]
        go_wp2_with fail
        refine hins.mono ?_
        rintro e w7 ⟨v', rfl, hO7, hM7⟩
        have hF7 : ∀ k, k < W6.heap.size → k ≠ s → some k ≠ (Value.slice A13 (stay gap key time l).length c13).ownBlock → w7.heap[k]? = W6.heap[k]? := fun k h1 h2 h3 => hM7.keep k h1 (fun e => e.elim h2 h3)
        have hr7 := (hF7 wr.heap.size (Array.getElem?_eq_some_iff.1 H6.out.2.1).1 (by have h1 := HSL.out; have h2 := H6.out.2.2.2.2.2.2.1; omega) HR.out.2.2.2.1).trans H6.out.2.1
        have b0 : w7.cell? ⟨wr.heap.size, 0, none⟩ = some (.int .i64 key) := (blk_cell hr7 0).trans rfl
        have b1 : w7.cell? ⟨wr.heap.size, 1, none⟩ = some (.complex .f64 (wd f) (wd la)) := (blk_cell hr7 1).trans rfl
        have b2 : w7.cell? ⟨wr.heap.size, 2, none⟩ = some (.int .i64 val) := (blk_cell hr7 2).trans rfl
        have hK7 := own_move H6.out.2.2.1 (w1 := w7) fun k hk => hF7 k (own_lt H6.out.2.2.1 k hk) (by have h1 := own_base H6.out.2.2.1 k hk; have h2 := HSL.out; omega) (fun e => by
          obtain ⟨c1, hc1⟩ := own_typed H6.out.2.2.1 k hk
          obtain ⟨c2, hc2⟩ := own_typed H6.out.1.ses k e.symm
          rw [hc1] at hc2
          injection hc2 with hc2
          injection hc2 with _ hc2
          exact absurd hc2 (by decide))
        have hch := change_calls ⟨key, f, la, val⟩ HP.out.1 w7
        unfold sesV chgV at hch
        have H7 := Lib.hid (And.intro hO7 (And.intro hM7 hK7))
        clear hins hF7 hr7 hK7 hO7 hM7
        go_wp2_with fail
        refine hch.mono ?_
        rintro e w8 ⟨rfl, hB8⟩
        have HK8 := Lib.hid (own_grown H7.out.2.2 hB8 (Nat.le_refl _)); have HB8 := Lib.hid hB8
        have hbase : w.heap.size ≤ w8.heap.size := by
          have h1 := hB8.size; have h2 := H7.out.2.1.size; have h3 := H6.out.2.2.2.2.1; have h4 := H6.out.2.2.2.1.size
          omega
        have hl40 : ((SlD.kept (isX ⟨key, f, la, val⟩) ((hits gap key time l).map goneT)).length + 1) * 40 ≤ 140737488355328 := by
          have h1 := SlD.kept_len (isX ⟨key, f, la, val⟩) ((hits gap key time l).map goneT)
          have h2 := HST.out; have h3 := HO.out.fits
          rw [List.length_map] at h1
          omega
        clear hch hB8 b0 b1 b2
        go_wp2_with (first
          | ((with_reducible refine gate_builtin (b := .append) (xs := #[.tmp 94, .tmp 97]) rfl ?_); at_builtin; refine print_append_cells (w0 := w8) w.heap.size rfl (.tmp 94) (.tmp 97) 37 50 (.agg #[.int .i64 0, .int .i64 0, .int .i64 0, .int .i64 0, .bool false]) 5 40 rfl Try.underlying37 infoC rfl (by decide) (by decide) v5 (SlD.kept (isX ⟨key, f, la, val⟩) ((hits gap key time l).map goneT)).length ((SlD.kept (isX ⟨key, f, la, val⟩) ((hits gap key time l).map goneT)).flatMap encC) (encC (chgT ⟨key, f, la, val⟩)) rfl rfl rfl (encC1 (chgT ⟨key, f, la, val⟩)) HK8.out (Below.refl _ _) hbase hl40 ?_; intro v9 w9 hown9 hb9 hg9 hat9)
          | go_in)
        have H9 := Lib.hid (And.intro hown9 hg9)
        clear hown9 hb9 hg9 hat9 hbase hl40
        go_wp2_with fail
        go_ret2
        have hm5 : Mv w W6 (F s (.slice A l.length c)) (F s (.slice A l.length c)) := by
          rw [HW6.out]; exact mv_set (Mv.of_below _ H6.out.2.2.2.1) (.inl (.inl rfl)) _
        have hm6 : Mv w W6 (F s (.slice A l.length c)) (F s (.slice A13 (stay gap key time l).length c13)) := ⟨hm5.os, hm5.tape, hm5.output, hm5.size, hm5.keep, fun k hk => hk.elim (fun e => .inl (.inl e)) (fun e => .inr (own_base H6.out.2.2.2.2.2.2.2 k e.symm))⟩
        have hm8 := (hm6.trans H7.out.2.1).trans (Mv.of_below (F s v') HB8.out)
        have hO8 := H7.out.1.below HB8.out
        have hsk : ∀ k, F s v' k → some k ≠ v5.ownBlock := fun k hk e => by
          rcases hk with rfl | hk
          · have h1 := own_base HK8.out k e.symm; have h2 := HSL.out; omega
          · obtain ⟨c1, hc1⟩ := own_typed hO8.ses k hk.symm
            obtain ⟨c2, hc2⟩ := own_typed HK8.out k e.symm
            rw [hc1] at hc2
            injection hc2 with hc2
            injection hc2 with _ hc2
            exact absurd hc2 (by decide)
        refine ⟨v9, v', rfl, ?_, ?_, ?_⟩
        · rw [← HP.out.2.2.1]; exact row5_of (own_snoc H9.out.1)
        · rw [HP.out.2.2.2.1]; exact hO8.kept fun k hk => H9.out.2.block k (hO8.lt k hk).2 (hsk k hk)
        · refine ⟨H9.out.2.os.trans hm8.os, H9.out.2.tape.trans hm8.tape, H9.out.2.output.trans hm8.output, Nat.le_trans hm8.size H9.out.2.size, fun k hk hs => (H9.out.2.block k (Nat.lt_of_lt_of_le hk hm8.size) fun e => ?_).trans (hm8.keep k hk hs), hm8.new⟩
          have h1 := own_base HK8.out k e.symm
          omega
end Go.Proofs.Ytanhibhcmfmeeaa.Se
