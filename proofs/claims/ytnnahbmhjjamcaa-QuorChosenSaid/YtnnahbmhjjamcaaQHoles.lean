import Derived.Test.YtnnahbmhjjamcaaQMerge
import Derived.Test.YtnnahbmhjjamcaaWMore
/- Holes. -/
namespace Go.Proofs.Ytnnahbmhjjamcaa.Quor
open Go.RowKit Go.Maps Go.Proofs.YtnnahbmhjjamcaaW.PrintWords Go.Proofs.YtnnahbmhjjamcaaW.PrintMore Go.Proofs.Ytnnahbmhjjamcaa.Cut
attribute [local go_sem] max2_int min2_int max_two min_two
def topM (l : List C3) : Int := l.foldl (fun t x => if x.1 < 4096 then (if t < x.1 then x.1 else t) else t) (-1)
theorem topM_snoc (l : List C3) (x : C3) : topM (l ++ [x]) = if x.1 < 4096 then (if topM l < x.1 then x.1 else topM l) else topM l := by
  unfold topM; rw [List.foldl_append]; rfl
theorem topM_bd : ∀ (l : List C3), -1 ≤ topM l ∧ topM l < 4096 := by
  have h : ∀ (l : List C3) (t : Int), -1 ≤ t ∧ t < 4096 → -1 ≤ l.foldl (fun t x => if x.1 < 4096 then (if t < x.1 then x.1 else t) else t) t ∧ l.foldl (fun t x => if x.1 < 4096 then (if t < x.1 then x.1 else t) else t) t < 4096 := by
    intro l
    induction l with
    | nil => exact fun t h => h
    | cons x r ih =>
      intro t ht
      rw [List.foldl_cons]
      refine ih _ ?_
      split
      · split <;> omega
      · exact ht
  exact fun l => h l (-1) (by decide)
def hasM (l : List C3) (a : Int) : Bool := l.any fun x => decide (x.1 = a)
def holesTo (l : List C3) (k : Nat) : List Int := ((List.range k).map fun (i : Nat) => (i : Int)).filter fun a => !hasM l a
theorem holesTo_snoc (l : List C3) (k : Nat) : holesTo l (k + 1) = if hasM l k = true then holesTo l k else holesTo l k ++ [(k : Int)] := by
  unfold holesTo
  rw [List.range_succ, List.map_append, List.filter_append]
  cases h : hasM l (k : Int) <;> simp [h]
noncomputable abbrev PB : Value → Option (DataW Unit × List MemPlace) := plainElem Try.prog 4
def AgrB (D : DataW Unit) (l : List C3) : Prop := IsMap D ∧ ∀ a, W64 a → D.atKey (.int .i64 a) (.lit (.bool false)) = .lit (.bool (hasM l a))
theorem AgrB.snoc {D : DataW Unit} {l : List C3} (h : AgrB D l) (x : C3) : AgrB (D.put (.int .i64 x.1) (.lit (.bool true))) (l ++ [x]) := by
  refine ⟨h.1.put _ _, fun a ha => ?_⟩
  by_cases e : a = x.1
  · subst e
    rw [Maps.atKey_put_same h.1 (isKeyI ha)]
    simp [hasM]
  · rw [Maps.atKey_put_other (fun h' => e (by injection h')), h.2 a ha]
    have : ¬ x.1 = a := fun e' => e e'.symm
    simp [hasM, this]
theorem infoInt : (Try.prog.info? 3).map (fun i => (i.zero, i.size, i.bytes)) = some (some (.int .i64 0), 1, 8) := by kernel_rfl
theorem plainElem_bool_inv' {v : Value} {b : Bool} {ps : List MemPlace} (h : PB v = some (.lit (.bool b), ps)) : v = .bool b := by
  unfold PB plainElem at h
  rw [Try.underlying4] at h
  cases v <;> simp at h
  rw [h.1]
theorem mapB_ne_row {w : World} {base n b : Nat} {v : Value} {xs : List Int} {D : DataW Unit} {ok : Nat → Prop} (hm : w.ownsMap Try.prog 3 PB b n D) (h : (Kd.int .i64).R 3 w base ok v xs) : some b ≠ v.ownBlock := by
  obtain ⟨_, _, hb, _⟩ := hm
  intro e
  obtain ⟨cells, hc⟩ := Kd.R_typed h b e.symm
  rw [hb] at hc
  cases hc
set_option maxHeartbeats 4000000 in
theorem holes_calls (l : List C3) (A : Option Addr) (c : Nat) (w : World) (hC : KC.C w A l.length l) (hW : ∀ x ∈ l, W64 x.1) (hn : l.length ≤ 1000000) :
    Calls Try.prog 15 #[.slice A l.length c] w fun e w' => ∃ v, e = .returned v ∧ (Kd.int .i64).R 3 w' w.heap.size (fun _ => True) v (holesTo l (topM l + 1).toNat) ∧ Below w.heap.size w w' := by
  have hmm := @run_makeMap Try.prog
  have HC := Lib.hid hC
  have HW := Lib.hid hW
  obtain ⟨n, hnl⟩ : ∃ n, n = l.length := ⟨_, rfl⟩
  rw [← hnl] at HC hn ⊢
  have HN := Lib.hid hnl
  clear hC hW hnl
  go_enter Try.func15, Try.ntmps15
  go_wp2
  go_loopw [4, 12] (fun t i wx => ∃ (k : Nat) (D : DataW Unit), k ≤ n ∧ i = .int .i64 k ∧ t = .int .i64 (topM (l.take k)) ∧ wx.ownsMap Try.prog 3 PB w.heap.size k D ∧ AgrB D (l.take k) ∧ Below w.heap.size w wx) (fun _ i _ => n - (intOf i).toNat)
  case atStart => exact ⟨0, .map [], Nat.zero_le _, rfl, rfl, World.ownsMap_made _ _ _ _, ⟨isMap_empty, fun _ _ => rfl⟩, (Below.refl _ _).alloc (Nat.le_refl _) _⟩
  case round =>
    obtain ⟨k, D, hk, rfl, rfl, hown, hA, hB⟩ := hrel
    by_cases hlt : k < n
    · have hlti : (k : Int) < (n : Int) := by omega
      have hk0 : (0 : Int) ≤ (k : Int) := by omega
      obtain ⟨ad, z, rfl, hz, _, a0, a1, a2⟩ := at_KC (Kd.C_below HC.out hB) k hlt
      obtain ⟨za, ze, zb, zA, zc⟩ := z
      simp only at a0 a1 a2
      simp only [C4.c3] at hz
      have hwz : W64 za := HW.out _ (List.mem_of_getElem? hz)
      have hown1 := hown.alloc (.cells #[.int .i64 za, .int .i64 ze, .slice zA zb.length zc] 28)
      obtain ⟨w2, hrun, hown2, hg2⟩ := hown1.update keyedI Try.underlying53 (by unfold maxLen; omega) (keyOf_I hwz) (plainElem_bool Try.underlying4 true)
      have hA2 := hA.snoc (za, ze, zb)
      rw [← take_snoc'' hz] at hA2
      have htp := topM_snoc (l.take k) (za, ze, zb)
      rw [← take_snoc'' hz] at htp
      simp only at htp
      have hbd := topM_bd (l.take k)
      have hB2 := (hB.alloc hB.size (.cells #[.int .i64 za, .int .i64 ze, .slice zA zb.length zc] 28)).grown hg2 (by have := hB.size; simp; omega) (fun j hj => by cases hj; exact Nat.le_refl _)
      have hr2 := (hg2.block wr.heap.size (by simp) (fun e => by have h1 := Option.some.inj e; have h2 := hown.lt; omega)).trans (MapKept.heap_alloc wr (.cells #[.int .i64 za, .int .i64 ze, .slice zA zb.length zc] 28)).1
      have z0 := (blk_cell hr2 0).trans rfl
      have HX := Lib.hid (And.intro hown2 (And.intro hA2 (And.intro hB2 htp)))
      clear hown hA hB hown1 hown2 hg2 hA2 hB2 hr2 hz htp
      generalize topM (l.take k) = t at *
      by_cases h4 : za < 4096
      · go_wp2
        go_roundw
        case rel => exact ⟨k + 1, _, by omega, by go_num, by rw [HX.out.2.2.2, if_pos h4], HX.out.1, HX.out.2.1, HX.out.2.2.1⟩
        case measure => simp [intOf]; omega
      · go_wp2
        go_roundw
        case rel => exact ⟨k + 1, _, by omega, by go_num, by rw [HX.out.2.2.2, if_neg h4], HX.out.1, HX.out.2.1, HX.out.2.2.1⟩
        case measure => simp [intOf]; omega
    · obtain rfl : k = n := by omega
      have e1 : l.take k = l := List.take_of_length_le (by rw [HN.out]; exact Nat.le_refl _)
      rw [e1] at hA ⊢
      have hbd := topM_bd l
      obtain ⟨m, hm⟩ : ∃ m : Nat, topM l + 1 = m := ⟨(topM l + 1).toNat, by omega⟩
      obtain ⟨t, ht⟩ : ∃ t, t = topM l := ⟨_, rfl⟩
      rw [← ht] at hm hbd ⊢
      have hm2 : IntKind.i64.wrap (t + 1) = (m : Int) := by rw [hm]; exact IntWalk.i64_in _ (by omega)
      have hm3 : m ≤ 4096 := by omega
      have HA := Lib.hid hA
      have HM := Lib.hid hm
      have HTP := Lib.hid ht
      have HO := Lib.hid (And.intro hown hB)
      have hlk : ∀ W (a : Int), W64 a → W.ownsMap Try.prog 3 PB w.heap.size k D → (Instr.lookup 53 (.map (some w.heap.size)) (.int .i64 a) false).run Try.prog W = .ok (.bool (hasM l a)) W := by
        intro W a ha h1
        obtain ⟨v, ps, hrun, hv⟩ := h1.lookup keyedI Try.underlying53 (z := .bool false) (by kernel_rfl) (plainElem_bool Try.underlying4 false) (keyOf_I ha)
        rw [hA.2 a ha] at hv
        have h2 := plainElem_bool_inv' hv
        rw [h2] at hrun
        exact hrun
      have HLK := Lib.hid hlk
      clear hA hB hown hlk e1 hm ht
      go_wp2_with fail
      go_loopw [7, 29] (fun v i wx => ∃ j : Nat, j ≤ m ∧ i = .int .i64 j ∧ (Kd.int .i64).R 3 wx w.heap.size (fun _ => True) v (holesTo l j) ∧ wx.ownsMap Try.prog 3 PB w.heap.size k D ∧ Below w.heap.size w wx) (fun _ i _ => m - (intOf i).toNat)
      case atStart => exact ⟨0, Nat.zero_le _, rfl, Kd.R_nil _ _ _ _ _, HO.out.1, HO.out.2⟩
      case round =>
        clear HO hm2
        obtain ⟨j, hj, rfl, hR, hown, hB⟩ := hrel
        by_cases hlj : j < m
        · have hji : (j : Int) < (m : Int) := by omega
          have hj0 : (0 : Int) ≤ (j : Int) := by omega
          have hl1 := HLK.out wr (j : Int) (by unfold W64; exact WalkArith.wf_i64 (by omega)) hown
          have hsn := holesTo_snoc l j
          have hhl : (holesTo l j).length ≤ j := by
            unfold holesTo
            exact Nat.le_trans (List.length_filter_le _ _) (by simp)
          have HX := Lib.hid (And.intro hR (And.intro hown (And.intro hB hsn)))
          have hl8 : ((holesTo l j).length + 1) * 8 ≤ 140737488355328 := by omega
          have hbs := hB.size
          clear hR hown hB hsn
          cases hh : hasM l (j : Int) with
          | true =>
            rw [hh] at hl1
            go_wp2
            go_roundw
            case rel => exact ⟨j + 1, by omega, by go_num, by rw [HX.out.2.2.2, if_pos hh]; exact HX.out.1, HX.out.2.1, HX.out.2.2.1⟩
            case measure => simp [intOf]; omega
          | false =>
            rw [hh] at hl1
            go_wp2_with (first
              | ((with_reducible refine gate_builtin (b := .append) (xs := #[.tmp 36, .tmp 38]) rfl ?_); at_builtin; refine Kd.R_append (Kd.int .i64) (w0 := w) w.heap.size rfl (.tmp 36) (.tmp 38) 42 3 (.int .i64 0) 8 rfl Try.underlying42 infoInt rfl (by decide) (by decide) u7 (holesTo l j) (j : Int) [.int .i64 (j : Int)] (fun _ => True) (fun _ => False) rfl rfl rfl (fun _ hk => hk.elim) (fun _ _ => trivial) HX.out.1 HX.out.2.2.1 hbs hl8 ?_; intro v1 w4 hR4 hb4 hg4 hat4)
              | go_in)
            have hne := mapB_ne_row HX.out.2.1 HX.out.1
            have hown4 := HX.out.2.1.kept hg4 hne
            go_roundw
            case rel => exact ⟨j + 1, by omega, by go_num, by rw [HX.out.2.2.2, if_neg (by rw [hh]; decide)]; exact hR4, hown4, hb4⟩
            case measure => simp [intOf]; omega
        · obtain rfl : j = m := by omega
          have HX := Lib.hid (And.intro hR hB)
          clear hR hown hB
          go_wp2
          go_ret
          exact ⟨u7, rfl, by rw [← HTP.out, HM.out, Int.toNat_natCast]; exact HX.out.1, HX.out.2⟩
end Go.Proofs.Ytnnahbmhjjamcaa.Quor
