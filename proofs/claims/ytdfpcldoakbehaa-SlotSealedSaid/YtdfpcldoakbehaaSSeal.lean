import Derived.Test.YtdfpcldoakbehaaSSort
/- The walk of Seal. -/
namespace Go.Proofs.Ytdfpcldoakbehaa.Slot
open Go.RowKit Go.Maps Go.Proofs.YtdfpcldoakbehaaW.PrintWords Go.Proofs.YtdfpcldoakbehaaW.PrintMore Go.Proofs.Ytdfpcldoakbehaa.Row Go.Proofs.Ytdfpcldoakbehaa.Cut Go.Proofs.Ytdfpcldoakbehaa.DiskM Go.Proofs.Ytdfpcldoakbehaa.Quor
open Go.Proofs.Ytdfpcldoakbehaa.PSlotNobody (puint_calls uintW uintW_len)
open Go.Proofs.Ytdfpcldoakbehaa.Crc (frameF)
theorem sort4_calls (v : Value) (out : List C4) (hb : ∀ z ∈ out, 0 ≤ z.at_ ∧ z.at_ ≤ 4095) (w : World) (base : Nat) (hown : w.ownsRow base 34 3 v out.length (out.flatMap enc4)) (hn : out.length ≤ 1000000) :
    Calls Try.prog 27 #[v, .func (.func 28) #[] #[]] w fun e w' => e = .returned (.tuple #[]) ∧ ∃ out' : List C4, out'.Perm out ∧ (out'.Pairwise fun a b => ¬ b.at_ < a.at_) ∧ w'.ownsRow base 34 3 v out'.length (out'.flatMap enc4) ∧ w.grownBy w' v.ownBlock := by
  obtain ⟨ob, hob⟩ : ∃ ob : List B4, ob.map Subtype.val = out := ⟨out.attach.map fun z => ⟨z.1, hb z.1 z.2⟩, by rw [List.map_map]; exact List.attach_map_subtype_val out⟩
  have hfl : ∀ l : List B4, l.flatMap encB = (l.map Subtype.val).flatMap enc4 := fun l => by rw [List.flatMap_map]; rfl
  have hlen : ob.length = out.length := by rw [← hob, List.length_map]
  rw [← hob, ← hfl, hob, ← hlen] at hown
  refine (sort_calls v ob w base hown (by omega)).mono ?_
  rintro e w' ⟨rfl, ob', hp, hs, ho, hg⟩
  refine ⟨rfl, ob'.map Subtype.val, by rw [← hob]; exact hp.map _, List.pairwise_map.2 hs, ?_, hg⟩
  rw [List.length_map, ← hfl]
  exact ho
theorem K4_inner' {w : World} {base : Nat} {v : Value} {out : List C4} {ok : Nat → Prop} (h : K4.R 34 w base ok v out) : w.ownsRow base 34 3 v out.length (out.flatMap enc4) := by
  obtain ⟨_, inner, hown, hl, hr⟩ := h
  have hin : inner = out.flatMap enc4 := by
    have e1 : K4.sz = 3 := rfl
    rw [e1] at hl hr
    clear hown
    induction out generalizing inner with
    | nil => simpa using hl
    | cons x r ih =>
      have h0 := hr 0 x rfl
      have h0 : (inner.drop (0 * 3)).take 3 = enc4 x := h0
      rw [Nat.zero_mul, List.drop_zero] at h0
      have hi : inner.drop 3 = r.flatMap enc4 := ih (inner.drop 3) (by rw [List.length_drop, hl, List.length_cons]; omega) (fun j p hj => by
        have h1 := hr (j + 1) p (by simpa using hj)
        rw [List.drop_drop]
        rwa [show 3 + j * 3 = (j + 1) * 3 from by omega])
      rw [List.flatMap_cons, ← h0, ← hi, List.take_append_drop]
  rw [← hin]
  exact hown
theorem K4_own {w : World} {base : Nat} {v : Value} {out : List C4} (h : w.ownsRow base 34 3 v out.length (out.flatMap enc4)) : K4.R 34 w base (fun _ => True) v out := by
  refine ⟨fun _ _ => trivial, _, h, ?_, fun j p hj => ?_⟩
  · have : ∀ l : List C4, (l.flatMap enc4).length = l.length * 3 := fun l => by
      induction l with
      | nil => rfl
      | cons x r ih => rw [List.flatMap_cons, List.length_append, ih, enc4_len, List.length_cons]; omega
    exact this out
  · have : ∀ (l : List C4) (j : Nat) (p : C4), l[j]? = some p → ((l.flatMap enc4).drop (j * 3)).take 3 = enc4 p := by
      intro l
      induction l with
      | nil => intro j p h; simp at h
      | cons x r ih =>
        intro j p h
        cases j with
        | zero =>
          obtain rfl : x = p := by simpa using h
          rw [List.flatMap_cons, Nat.zero_mul, List.drop_zero]
          exact List.take_left' (enc4_len x)
        | succ j =>
          rw [List.flatMap_cons, Nat.succ_mul, Nat.add_comm, ← List.drop_drop, List.drop_left' (enc4_len x)]
          exact ih j p (by simpa using h)
    exact this out j p hj
theorem OwnB.low {w : World} {base base' : Nat} {z : C4} (h : OwnB w base z) (hb : base' ≤ base) : OwnB w base' z := Kd.R_lower h hb
theorem OwnB.below {w w' : World} {base : Nat} {z : C4} (h : OwnB w base z) (hb : Below w.heap.size w w') : OwnB w' base z := Kd.R_below h hb
theorem OwnB.kept {w w' : World} {base base' : Nat} {z : C4} {v : Value} {xs : List C4} {ok : Nat → Prop} (h : OwnB w base z) (hv : K4.R 34 w base' ok v xs) (hg : w.grownBy w' v.ownBlock) : OwnB w' base z := by
  refine Kd.R_mono (Kd.R_grown (Kd.R_tight rfl h) hg (fun k hk e => ?_)) (fun _ _ => trivial)
  obtain ⟨c1, h1⟩ := Kd.R_typed h k hk.symm
  obtain ⟨c2, h2⟩ := Kd.R_typed hv k e.symm
  rw [h1] at h2
  injection h2 with h2
  injection h2 with _ h2
  exact absurd h2 (by decide)
theorem R_grown_obj {α : Type} {d : Kd α} {e base b : Nat} {w w' : World} {ok : Nat → Prop} {v : Value} {xs : List α} {o : Obj} (hE : d.E = []) (h : d.R e w base ok v xs) (hb : w.heap[b]? = some o) (ho : ∀ c t f, o ≠ .cells c t f) (hg : w.grownBy w' (some b)) : d.R e w' base (fun _ => True) v xs := by
  refine Kd.R_mono (Kd.R_grown (Kd.R_tight hE h) hg (fun k hk e1 => ?_)) (fun _ _ => trivial)
  obtain ⟨c1, h1⟩ := Kd.R_typed h k hk.symm
  have := Option.some.inj e1
  subst this
  rw [hb] at h1
  exact ho _ _ _ (Option.some.inj h1)
theorem iter_obj {w : World} {b r n : Nat} {D : DataW Value} {left : Lit → Bool} {cnt : Nat} (h : w.ranges Try.prog 3 RC4 b r n D left cnt) : ∃ o, w.heap[r]? = some o ∧ ∀ c t f, o ≠ .cells c t f := by
  obtain ⟨_, _, _, _, _, _, _, _, _, hit, _⟩ := h
  exact ⟨_, hit, fun _ _ _ => by intro h; cases h⟩
theorem iter_ne_row {w : World} {b r n base : Nat} {D : DataW Value} {left : Lit → Bool} {cnt : Nat} {v : Value} {xs : List C4} {ok : Nat → Prop} (h : w.ranges Try.prog 3 RC4 b r n D left cnt) (hr : K4.R 34 w base ok v xs) : some r ≠ v.ownBlock := by
  obtain ⟨o, ho, hn⟩ := iter_obj h
  intro e
  obtain ⟨cells, hc⟩ := Kd.R_typed hr r e.symm
  rw [ho] at hc
  exact hn _ _ _ (Option.some.inj hc)
theorem map_ne_row4 {w : World} {b r n base : Nat} {D : DataW Value} {left : Lit → Bool} {cnt : Nat} {v : Value} {xs : List C4} {ok : Nat → Prop} (h : w.ranges Try.prog 3 RC4 b r n D left cnt) (hr : K4.R 34 w base ok v xs) : some b ≠ v.ownBlock := by
  obtain ⟨es, clock, hb, _⟩ := h.owns
  intro e
  obtain ⟨cells, hc⟩ := Kd.R_typed hr b e.symm
  rw [hb] at hc
  cases hc
theorem Once.uniq : ∀ {m : List B3}, Once m → ∀ {a b : B3}, a ∈ m → b ∈ m → a.1 = b.1 → a = b
  | x :: r, h, a, b, ha, hb, e => by
    obtain ⟨h1, h2⟩ := List.pairwise_cons.1 h
    rcases List.mem_cons.1 ha with ha' | ha'
    · rcases List.mem_cons.1 hb with hb' | hb'
      · rw [ha', hb']
      · exact absurd (by rw [← ha']; exact e) (h1 b hb')
    · rcases List.mem_cons.1 hb with hb' | hb'
      · exact absurd (by rw [← hb']; exact e.symm) (h1 a ha')
      · exact Once.uniq h2 ha' hb' e
/-- What was collected so far. -/
def CollS (m : List C4) (left : Lit → Bool) (out : List C4) : Prop :=
  (out.map C4.at_).Nodup ∧ ∀ c : B3, c ∈ out.map C4.c3 ↔ c ∈ m.map C4.c3 ∧ left (.int .i64 c.1) = false
theorem CollS.start {D : DataW Value} {m : List C4} (h : Agr D m) (hm : ∀ c ∈ m, 0 ≤ c.at_ ∧ c.at_ ≤ 4095) : CollS m (Maps.has D) [] := by
  refine ⟨List.nodup_nil, fun c => ⟨fun h => (by cases h), fun ⟨h1, h2⟩ => ?_⟩⟩
  obtain ⟨z, hz, rfl⟩ := List.mem_map.1 h1
  have := hm z hz
  rw [show (z.c3).1 = z.at_ from rfl, (h.2.2 z.at_ (w64_of (by omega) (by omega))).2, look4_some hz] at h2
  cases h2
theorem CollS.step {m out : List C4} {left : Lit → Bool} (h : CollS m left out) (ho : Once (m.map C4.c3)) (hm : ∀ c ∈ m, 0 ≤ c.at_ ∧ c.at_ ≤ 4095) {z z' : C4} (hz : z ∈ m) (hl : left (.int .i64 z.at_) = true) (hc : z'.c3 = z.c3) :
    CollS m (fun k => left k && !k.sameKey (.int .i64 z.at_)) (out ++ [z']) := by
  have hza : z'.at_ = z.at_ := congrArg Prod.fst hc
  have hw : ∀ c ∈ m, W64 c.at_ := fun c hc => by have := hm c hc; exact w64_of (by omega) (by omega)
  have hnot : ∀ c ∈ out.map C4.c3, c.1 ≠ z.at_ := by
    intro c hcm e
    have := ((h.2 c).1 hcm).2
    rw [e, hl] at this; cases this
  refine ⟨?_, fun c => ?_⟩
  · rw [List.map_append]
    refine List.nodup_append.2 ⟨h.1, by simp, fun p hp q hq => ?_⟩
    obtain rfl : q = z'.at_ := by simpa using hq
    obtain ⟨y, hy, rfl⟩ := List.mem_map.1 hp
    rw [hza]
    exact hnot y.c3 (List.mem_map_of_mem hy)
  · rw [List.map_append, List.mem_append, h.2 c]
    constructor
    · rintro (⟨h1, h2⟩ | hcm)
      · exact ⟨h1, by simp [h2]⟩
      · obtain rfl : c = z'.c3 := by simpa using hcm
        rw [hc]
        refine ⟨List.mem_map_of_mem hz, ?_⟩
        simp only [show z.c3.1 = z.at_ from rfl, same_int (a := z.at_) (hw z hz), decide_true, Bool.not_true, Bool.and_false]
    · rintro ⟨h1, h2⟩
      obtain ⟨y, hy, rfl⟩ := List.mem_map.1 h1
      simp only [show y.c3.1 = y.at_ from rfl, same_int (a := z.at_) (hw y hy)] at h2
      by_cases e : y.at_ = z.at_
      · right
        have heq : y.c3 = z.c3 := Once.uniq ho (List.mem_map_of_mem hy) (List.mem_map_of_mem hz) e
        rw [heq, ← hc]; simp
      · left
        rw [decide_eq_false e] at h2
        refine ⟨h1, ?_⟩
        show left (.int .i64 y.at_) = false
        simpa using h2
/-- A list of all cells, by rising slots. -/
def IsAll (m : List B3) (out : List C4) : Prop := (∀ c : B3, c ∈ out.map C4.c3 ↔ c ∈ m) ∧ out.Pairwise fun a b => a.at_ < b.at_
theorem CollS.done {m out out' : List C4} {left : Lit → Bool} (h : CollS m left out) (hl : ∀ k, left k = false) (hp : out'.Perm out) (hs : out'.Pairwise fun a b => ¬ b.at_ < a.at_) : IsAll (m.map C4.c3) out' := by
  refine ⟨fun c => ?_, ?_⟩
  · rw [(hp.map C4.c3).mem_iff, h.2 c]
    exact ⟨fun h => h.1, fun h => ⟨h, hl _⟩⟩
  · have h1 : (out'.map C4.at_).Nodup := ((hp.map C4.at_).nodup_iff).2 h.1
    have h2 : out'.Pairwise fun a b => a.at_ ≠ b.at_ := by
      have := h1
      unfold List.Nodup at this
      rwa [List.pairwise_map] at this
    exact (hs.and h2).imp fun ⟨a, b⟩ => by omega
def SealP (w0 w : World) (n : NB) (room : Int) (r : Int × S3) (e : Ending) (w' : World) : Prop :=
  ∃ v out n' ep' m', e = .returned (.tuple #[v, .int .i64 r.1]) ∧ K4.R 34 w' w.heap.size (fun _ => True) v out ∧ (∀ z ∈ out, OwnB w' w.heap.size z) ∧ (if r.1 = 0 then IsAll r.2.2.1 out else out = []) ∧
    n'.gd = n.gd ∧ n'.gn = n.gn ∧ Nd w0 w' n' room r.2.2.2 r.2.2.2.length ep' m' ∧ (ep', m'.map C4.c3, r.2.2.2) = r.2 ∧ Stp w w' (SN n) (SN n')
section
variable {w0 w w' : World} {n : NB} {room : Int} {bs : List Int} {ep : Int} {m : List C4}
theorem SealP.same (N : Nd w0 w n room bs bs.length ep m) (hb : Below w.heap.size w w') (r : Int) (hr : r ≠ 0) : SealP w0 w n room (r, (ep, m.map C4.c3, bs)) (.returned (.tuple #[.slice none 0 0, .int .i64 r])) w' :=
  ⟨.slice none 0 0, [], n, ep, m, rfl, Kd.R_nil _ _ _ _ _, fun _ hz => (by cases hz), by rw [if_neg hr], rfl, rfl, N.below hb, rfl, Stp.of_below _ hb⟩
end
set_option maxRecDepth 1000000 in
set_option maxHeartbeats 8000000 in
theorem seal_calls {w0 w : World} {n : NB} {room : Int} {bs : List Int} {ep : Int} {m : List C4} (N : Nd w0 w n room bs bs.length ep m) (epoch : Int) (hfit : (bs.length : Int) + 20 ≤ room) :
    Calls Try.prog 15 #[.pointer (some ⟨n.gn, 0, none⟩), .int .i64 epoch] w (SealP w0 w n room (sealF (ep, m.map C4.c3, bs) epoch)) := by
  obtain ⟨_, c1, _, _⟩ := N.cells
  have HN := Lib.hid N; have HFit := Lib.hid hfit
  have hF : sealF (ep, m.map C4.c3, bs) epoch = sealF (ep, m.map C4.c3, bs) epoch := rfl
  conv at hF => rhs; unfold sealF
  simp only at hF
  clear N hfit
  by_cases h0 : epoch < 0
  · rw [if_pos (.inl h0)] at hF
    have HF := Lib.hid hF
    clear hF
    go_enter Try.func15, Try.ntmps15
    go_wp2_with fail
    go_ret2
    rw [HF.out]
    exact SealP.same HN.out (Below.refl _ _) 2 (by decide)
  · by_cases h1 : 1048576 < epoch
    · rw [if_pos (.inr h1)] at hF
      have HF := Lib.hid hF
      clear hF
      go_enter Try.func15, Try.ntmps15
      go_wp2_with fail
      go_ret2
      rw [HF.out]
      exact SealP.same HN.out (Below.refl _ _) 2 (by decide)
    · rw [if_neg (fun e => e.elim h0 h1)] at hF
      by_cases h2 : epoch ≤ ep
      · rw [if_pos h2] at hF
        have HF := Lib.hid hF
        clear hF
        go_enter Try.func15, Try.ntmps15
        go_wp2_with fail
        go_ret2
        rw [HF.out]
        exact SealP.same HN.out (Below.refl _ _) 7 (by decide)
      · rw [if_neg h2] at hF
        have HF := Lib.hid hF
        clear hF
        go_enter Try.func15, Try.ntmps15
        go_wp2_with fail
        refine (puint_calls none 0 [] 2 _ (Kd.C_nil _ _) (Nat.zero_le _) (by omega) (by omega) (by simp)).mono ?_
        rintro e w1 ⟨v1, rfl, R1, b1⟩
        obtain ⟨l1, hl1⟩ : ∃ l1, l1 = [] ++ uintW (2 : Int).toNat := ⟨_, rfl⟩
        rw [← hl1] at R1
        obtain ⟨A1, k1, rfl⟩ := Kd.R_slice R1
        obtain ⟨_, hc1, C1⟩ := Kd.R_reads' R1
        have HB1 := Lib.hid b1
        have hq1 : l1.length ≤ 1 := by rw [hl1]; exact Nat.le_refl _
        have hu2 := puint_calls A1 k1 l1 epoch w1 C1 hc1 (by omega) (by omega) (by omega)
        obtain ⟨n1, hn1⟩ : ∃ n1, n1 = l1.length := ⟨_, rfl⟩
        rw [← hn1] at hu2 ⊢
        have HL1 := Lib.hid hl1
        clear hl1 hn1 R1 C1 hc1 b1 hq1
        go_wp2_with fail
        refine hu2.mono ?_
        rintro e w2 ⟨v2, rfl, R2, b2⟩
        obtain ⟨l2, hl2⟩ : ∃ l2, l2 = l1 ++ uintW epoch.toNat := ⟨_, rfl⟩
        rw [← hl2] at R2
        obtain ⟨A2, k2, rfl⟩ := Kd.R_slice R2
        obtain ⟨_, hc2, C2⟩ := Kd.R_reads' R2
        have HB2 := Lib.hid (below_step HB1.out b2)
        have hpay : l2 = sealP epoch.toNat := by rw [hl2, HL1.out]; unfold sealP; rw [List.nil_append]; rfl
        have hpl := sealP_len epoch.toNat
        have hfl := frame_len (sealP epoch.toNat)
        have hno := note_calls (HN.out.below HB2.out) A2 k2 l2 (HN.out.fresh HB1.out.size R2) hc2 (by rw [hpay]; exact sealP_bytes _ (by omega)) (by rw [hpay]; omega) (by rw [hpay]; have := HFit.out; omega)
        obtain ⟨n2, hn2⟩ : ∃ n2, n2 = l2.length := ⟨_, rfl⟩
        rw [← hn2] at hno ⊢
        have HPay := Lib.hid hpay
        clear hu2 hl2 hn2 R2 C2 hc2 b2 hpay hpl hfl c1
        go_wp2_with fail
        refine hno.mono ?_
        rintro e w5 hP
        rw [HPay.out] at hP
        obtain ⟨n', ep', m', rfl, hgd, hgn, N5, hs5, hst5⟩ := hP
        have HX5 := Lib.hid (And.intro hgd (And.intro hs5 ((Stp.of_below _ HB2.out).trans hst5)))
        obtain ⟨_, _, d2, _⟩ := N5.cells
        rw [hgn] at d2
        obtain ⟨D, hown, hA⟩ := N5.map
        have hrg : ∀ c ∈ m', 0 ≤ c.at_ ∧ c.at_ ≤ 4095 := fun c hc => (N5.rngc c hc).1
        have HA := Lib.hid hA; have HR := Lib.hid hrg; have HN5 := Lib.hid N5; have HGn := Lib.hid hgn
        have HO := Lib.hid hown
        clear hno hgd hs5 hst5 hA hrg N5 hgn
        go_wp2_with (first
          | (at_range; refine wpList_range_own _ rfl _ 54 rfl 3 34 keyedI Try.underlying54 RC4 n'.mb m'.length D rfl hown ?_; intro w6 hrg6 hg6 hs6)
          | go_in)
        go_frame
        have hB6 := Lib.hid (show Below w5.heap.size w5 w6 from (Below.refl _ _).grown hg6 (Nat.le_refl _) (fun j hj => by cases hj))
        obtain ⟨r, hr⟩ : ∃ r, w5.heap.size = r := ⟨_, rfl⟩
        rw [hr] at hrg6 hB6 ⊢
        have HRr := Lib.hid hr
        go_loopw [7] (fun v wx => ∃ (left : Lit → Bool) (cnt : Nat) (out : List C4), wx.ranges Try.prog 3 RC4 n'.mb r m'.length D left cnt ∧ cnt + out.length ≤ m'.length ∧ K4.R 34 wx r (fun _ => True) v out ∧ (∀ z ∈ out, OwnB wx r z) ∧ CollS m' left out ∧ Below r w5 wx) (fun _ wx => wx.rangeLeft n'.mb r)
        case atStart => exact ⟨_, _, [], hrg6, by have := hown.size_le; simpa using this, Kd.R_nil _ _ _ _ _, by simp, CollS.start HA.out HR.out, hB6.out⟩
        case round =>
          clear hg6 hs6 hrg6 hown hB6 d2
          obtain ⟨left, cnt, out, hrel⟩ := hrel
          have HRel := Lib.hid hrel
          have hrg := hrel.1
          clear hrel
          go_wp2_with (first
            | (at_next; refine wpList_next_ranges _ rfl _ rfl 3 keyedI RC4 (fun x : II => .int .i64 x.a) (fun x : VV => .agg #[.int .i64 x.a, .int .i64 x.e, .slice x.A x.n x.c]) (fun _ _ h => by obtain ⟨x, hx, _⟩ := keyOf_int_inv Try.underlying3 h; exact ⟨⟨x⟩, hx⟩) (fun _ _ h => RC4_shape h) n'.mb r _ _ _ _ rfl hrg ?_ ?_)
            | go_in)
          · intro hc0 hl0
            obtain ⟨_, hcn, hrow, hownb, hcoll, hb⟩ := HRel.out
            have hmf := HN5.out.few
            have hout : ∀ z ∈ out, 0 ≤ z.at_ ∧ z.at_ ≤ 4095 := fun z hz => by
              have h1 := ((hcoll.2 z.c3).1 (List.mem_map_of_mem hz)).1
              obtain ⟨y, hy, hyz⟩ := List.mem_map.1 h1
              have h2 := HR.out y hy
              have h3 : y.at_ = z.at_ := congrArg Prod.fst hyz
              omega
            have hso := sort4_calls u7 out hout _ r (K4_inner' hrow) (by omega)
            have HX := Lib.hid (And.intro hcoll (And.intro hl0 (And.intro hrow (And.intro hownb hb))))
            clear hrg hcn hrow hownb hcoll hb HRel hl0 hc0 hr hmf hout
            go_wp2_with fail
            refine hso.mono ?_
            rintro e w7 ⟨rfl, out', hp, hs, hown', hg'⟩
            have hall := HX.out.1.done HX.out.2.1 hp (hs.imp (fun h => by omega))
            have hb7 : Below r w5 w7 := HX.out.2.2.2.2.grown hg' (by rw [← HRr.out]; exact HX.out.2.2.2.2.size) (fun j hj => Kd.R_base HX.out.2.2.1 j hj)
            have hlow : w.heap.size ≤ r := by rw [← HRr.out]; exact HX5.out.2.2.size
            have hob : ∀ z ∈ out', OwnB w7 w.heap.size z := fun z hz => OwnB.low (OwnB.kept (HX.out.2.2.2.1 z (hp.mem_iff.1 hz)) HX.out.2.2.1 hg') hlow
            have hkr : K4.R 34 w7 w.heap.size (fun _ => True) u7 out' := Kd.R_lower (K4_own hown') hlow
            have HFi := Lib.hid (And.intro hkr (And.intro hob (And.intro hall hb7)))
            clear hso hp hs hown' hg' hob hkr hall hb7 hlow
            go_wp2
            go_ret2
            obtain ⟨hkr, hob, hall, hb7⟩ := HFi.out
            rw [HF.out]
            have hb7' : Below w5.heap.size w5 w7 := by rw [HRr.out]; exact hb7
            have hm5 : m'.map C4.c3 = (noteF (ep, m.map C4.c3, bs) (sealP epoch.toNat)).2.1 := congrArg (fun x => x.2.1) HX5.out.2.1
            exact ⟨u7, out', n', ep', m', rfl, hkr, hob, by rw [if_pos rfl]; show IsAll (noteF (ep, m.map C4.c3, bs) (sealP epoch.toNat)).2.1 out'; rw [← hm5]; exact hall, HX5.out.1, HGn.out, HN5.out.below hb7', HX5.out.2.1, HX5.out.2.2.trans (Stp.of_below _ hb7')⟩
          · intro ⟨a⟩ ⟨va, ve, vA, vn, vc⟩ kl y yp w7 cnt7 hkey hlk hv hat hrg7 hlt7 hg7 hs7 hen
            try simp only at hkey hv hen
            obtain ⟨a', ea, rfl, hwa⟩ := keyOf_int_inv Try.underlying3 hkey
            obtain rfl : a = a' := by injection ea
            have hyv := congrArg Prod.fst (RC4_inv hv)
            simp only at hyv
            obtain ⟨z, hz, hza, hzv⟩ := HA.out.entry hwa (v := .agg #[.int .i64 va, .int .i64 ve, .slice vA vn vc]) (fun zd => by rw [hat zd]; exact hyv)
            obtain ⟨_, hcn, hrow, hownb, hcoll, hb⟩ := HRel.out
            obtain ⟨hzc, hzC⟩ := HN5.out.bytes hz
            have hzl := (HN5.out.rngc z hz).2.2.1
            subst hza
            obtain ⟨za, ze, zb, zA, zc⟩ := z
            simp only [agg4] at hzv
            obtain ⟨rfl, rfl, rfl, rfl, rfl⟩ : va = za ∧ ve = ze ∧ vA = zA ∧ vn = zb.length ∧ vc = zc := by
              injection hzv with h1
              injection h1 with h1
              injection h1 with a1 h1
              injection h1 with a2 h1
              injection h1 with a3 _
              injection a1 with _ a1
              injection a2 with _ a2
              injection a3 with a3 a4 a5
              exact ⟨a1, a2, a3, a4, a5⟩
            obtain ⟨o, ho, hon⟩ := iter_obj hrg
            have hb1 : Below r w5 w7 := hb.grown hg7 (by rw [← HRr.out]; exact hb.size) (fun j hj => by cases hj; exact Nat.le_refl _)
            have hrow1 := R_grown_obj (d := K4) rfl hrow ho hon hg7
            have hown1 : ∀ z ∈ out, OwnB w7 r z := fun z hz => R_grown_obj (d := Kd.int .u8) rfl (hownb z hz) ho hon hg7
            have hbx : Below w7.heap.size w7 (w7.alloc (.cells #[.int .i64 va, .int .i64 ve, .slice vA zb.length vc] 34)) := (Below.refl _ _).alloc (Nat.le_refl _) _
            have hb5 : Below w5.heap.size w5 w7 := by rw [HRr.out]; exact hb1
            have how := own_calls ⟨va, ve, zb, vA, vc⟩ (w7.alloc (.cells #[.int .i64 va, .int .i64 ve, .slice vA zb.length vc] 34)) ⟨hzc, Kd.C_below hzC (below_step hb5 hbx)⟩ (by show zb.length ≤ _; simp only at hzl; omega)
            simp only at how
            have HX := Lib.hid (And.intro hrg7 (And.intro hlt7 (And.intro hrg.left_eq (And.intro hrow1 (And.intro hown1 (And.intro hb1 (And.intro hcn hcoll)))))))
            have HY := Lib.hid (And.intro hlk (And.intro hz hbx))
            obtain ⟨zl, hzl2⟩ : ∃ zl, zl = zb.length := ⟨_, rfl⟩
            rw [← hzl2] at how hen HY
            clear hrg hrg7 hcn hrow hownb hcoll hb hrow1 hown1 hb1 hb5 hbx hlt7 hg7 hs7 hkey hlk hat hv hyv hzv HRel ea hwa hz hzc hzC hzl ho hon hr hzl2
            go_wp2_with fail
            refine how.mono ?_
            rintro e w8 ⟨z', rfl, hz3, hoz, hb8⟩
            obtain ⟨ya, ye, yb, yA, yc⟩ := z'
            simp only
            have hB8 := below_step HY.out.2.2 hb8
            have hrow8 := Kd.R_below HX.out.2.2.2.1 hB8
            have hown8 : ∀ z ∈ out, OwnB w8 r z := fun z hz => OwnB.below (HX.out.2.2.2.2.1 z hz) hB8
            have hrs : r ≤ w7.heap.size := by have h1 := HX.out.2.2.2.2.2.1.size; have h2 := HRr.out; omega
            have hoz8 : OwnB w8 r ⟨ya, ye, yb, yA, yc⟩ := OwnB.low hoz (Nat.le_trans hrs HY.out.2.2.size)
            have hrg8 := HX.out.1.kept (grown_of_below hB8) (by simp) (by simp)
            have hb88 : Below r w5 w8 := HX.out.2.2.2.2.2.1.grown (grown_of_below hB8) (by have h1 := HX.out.2.2.2.2.2.1.size; have h2 := HRr.out; omega) (fun j hj => by cases hj)
            have H8 := Lib.hid (And.intro hrow8 (And.intro hown8 (And.intro hoz8 (And.intro hrg8 hb88))))
            have HZ8 := Lib.hid hz3
            have hrs8 : r ≤ w8.heap.size := Nat.le_trans hrs hB8.size
            have hl40 : (out.length + 1) * 40 ≤ 140737488355328 := by have := HX.out.2.2.2.2.2.2.1; have := HN5.out.few; omega
            clear how hz3 hoz hb8 hB8 hrow8 hown8 hoz8 hrg8 hb88 hen
            go_wp2_with (first
              | ((with_reducible refine gate_builtin (b := .append) (xs := #[.tmp 45, .tmp 48]) rfl ?_); at_builtin; refine Kd.R_append K4 (w0 := w8) r rfl (.tmp 45) (.tmp 48) 40 34 (.agg #[.int .i64 0, .int .i64 0, .slice none 0 0]) 40 rfl Try.underlying40 infoCell rfl (by decide) (by decide) u7 out ⟨ya, ye, yb, yA, yc⟩ (enc4 ⟨ya, ye, yb, yA, yc⟩) (fun _ => True) (fun _ => False) rfl rfl rfl (fun _ hk => hk.elim) (fun _ _ => trivial) H8.out.1 (Below.refl _ _) hrs8 hl40 ?_; intro v1 w9 hR9 hb9 hg9 hat9)
              | go_in)
            have hrg9 := H8.out.2.2.2.1.kept hg9 (map_ne_row4 H8.out.2.2.2.1 H8.out.1) (iter_ne_row H8.out.2.2.2.1 H8.out.1)
            go_roundw
            case rel =>
              refine ⟨_, cnt7, out ++ [⟨ya, ye, yb, yA, yc⟩], hrg9, ?_, hR9, ?_, ?_, ?_⟩
              · have h1 := HX.out.2.2.2.2.2.2.1; have h2 := HX.out.2.1; rw [List.length_append, List.length_singleton]; omega
              · intro z hz
                rcases List.mem_append.1 hz with hz | hz
                · exact OwnB.kept (H8.out.2.1 z hz) H8.out.1 hg9
                · obtain rfl : z = ⟨ya, ye, yb, yA, yc⟩ := by simpa using hz
                  exact OwnB.kept H8.out.2.2.1 H8.out.1 hg9
              · exact HX.out.2.2.2.2.2.2.2.step HN5.out.once HR.out HY.out.2.1 HY.out.1 HZ8.out
              · exact H8.out.2.2.2.2.grown hg9 (by have h1 := H8.out.2.2.2.2.size; have h2 := HRr.out; omega) (fun j hj => Kd.R_base H8.out.1 j hj)
            case measure => rw [hrg9.left_eq, HX.out.2.2.1]; exact HX.out.2.1
end Go.Proofs.Ytdfpcldoakbehaa.Slot
