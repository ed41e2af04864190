import Derived.Test.YtdfpcldoakbehaaSRead
import Derived.Lib.MinMax
/- The walk of Tail. -/
namespace Go.Proofs.Ytdfpcldoakbehaa.Slot
open Go.RowKit Go.Maps Go.Proofs.YtdfpcldoakbehaaW.PrintWords Go.Proofs.YtdfpcldoakbehaaW.PrintMore Go.Proofs.Ytdfpcldoakbehaa.Row Go.Proofs.Ytdfpcldoakbehaa.Cut Go.Proofs.Ytdfpcldoakbehaa.DiskM Go.Proofs.Ytdfpcldoakbehaa.Quor
structure II where
  a : Int
structure VV where
  a : Int
  e : Int
  A : Option Addr
  n : Nat
  c : Nat
theorem RC4_shape {v : Value} {y : DataW Value × List MemPlace} (h : RC4 v = some y) : ∃ x : VV, v = .agg #[.int .i64 x.a, .int .i64 x.e, .slice x.A x.n x.c] := by
  unfold RC4 at h
  split at h
  · rename_i a e A n c
    exact ⟨⟨a, e, A, n, c⟩, rfl⟩
  · cases h
theorem same_int {a c : Int} (hc : W64 c) : (Lit.int .i64 c).sameKey (.int .i64 a) = decide (c = a) := by
  by_cases h : c = a
  · subst h; rw [WideAt.sameKey_self (isKeyI hc), decide_eq_true rfl]
  · rw [decide_eq_false h]
    exact Maps.sameKey_ne fun e => h (by injection e)
/-- One more than the greatest slot. -/
def IsTail (m : List B3) (t : Int) : Prop := 0 ≤ t ∧ (∀ c ∈ m, c.1 + 1 ≤ t) ∧ (t = 0 ∨ ∃ c ∈ m, c.1 + 1 = t)
theorem IsTail.uniq {m : List B3} {t t' : Int} (h : IsTail m t) (h' : IsTail m t') : t = t' := by
  obtain ⟨a1, a2, a3⟩ := h
  obtain ⟨b1, b2, b3⟩ := h'
  have h1 : t ≤ t' := by
    rcases a3 with e | ⟨c, hc, e⟩
    · omega
    · have := b2 c hc; omega
  have h2 : t' ≤ t := by
    rcases b3 with e | ⟨c, hc, e⟩
    · omega
    · have := a2 c hc; omega
  omega
/-- So far: of the slots that are no longer to come. -/
def TailI (m : List C4) (left : Lit → Bool) (t : Int) : Prop := 0 ≤ t ∧ t ≤ 4096 ∧ (∀ c ∈ m, left (.int .i64 c.at_) = false → c.at_ + 1 ≤ t) ∧ (t = 0 ∨ ∃ c ∈ m, c.at_ + 1 = t)
theorem look4_some {m : List C4} {c : C4} (h : c ∈ m) : (look4 m c.at_).isSome = true := by
  unfold look4
  rw [List.find?_isSome]
  exact ⟨c, h, decide_eq_true rfl⟩
theorem TailI.start {D : DataW Value} {m : List C4} (h : Agr D m) (hm : ∀ c ∈ m, 0 ≤ c.at_ ∧ c.at_ ≤ 4095) : TailI m (Maps.has D) 0 := by
  refine ⟨Int.le_refl _, by decide, fun c hc hl => ?_, .inl rfl⟩
  have := hm c hc
  rw [(h.2.2 c.at_ (w64_of (by omega) (by omega))).2, look4_some hc] at hl
  cases hl
theorem TailI.step {m : List C4} {left : Lit → Bool} {t : Int} (h : TailI m left t) (hm : ∀ c ∈ m, 0 ≤ c.at_ ∧ c.at_ ≤ 4095) {z : C4} (hz : z ∈ m) : TailI m (fun k => left k && !k.sameKey (.int .i64 z.at_)) (max t (z.at_ + 1)) := by
  obtain ⟨h1, h2, h3, h4⟩ := h
  have hzr := hm z hz
  refine ⟨by omega, by omega, fun c hc hl => ?_, ?_⟩
  · have hcr := hm c hc
    simp only [same_int (a := z.at_) (c := c.at_) (w64_of (by omega) (by omega))] at hl
    by_cases e : c.at_ = z.at_
    · omega
    · rw [decide_eq_false e] at hl
      have := h3 c hc (by simpa using hl)
      omega
  · by_cases e : t ≤ z.at_ + 1
    · exact .inr ⟨z, hz, by omega⟩
    · rcases h4 with e4 | ⟨c, hc, e4⟩
      · exact .inl (by omega)
      · exact .inr ⟨c, hc, by omega⟩
theorem TailI.done {m : List C4} {left : Lit → Bool} {t : Int} (h : TailI m left t) (hl : ∀ k, left k = false) : IsTail (m.map C4.c3) t := by
  obtain ⟨h1, h2, h3, h4⟩ := h
  refine ⟨h1, fun c hc => ?_, h4.imp id fun ⟨c, hc, e⟩ => ⟨c.c3, List.mem_map_of_mem hc, e⟩⟩
  obtain ⟨z, hz, rfl⟩ := List.mem_map.1 hc
  exact h3 z hz (hl _)
/-- What the map has at a key that came. -/
theorem Agr.entry {D : DataW Value} {m : List C4} (h : Agr D m) {a : Int} (ha : W64 a) {v : Value} (hat : ∀ zd, D.atKey (.int .i64 a) zd = .held v) : ∃ z ∈ m, z.at_ = a ∧ v = agg4 z := by
  have h1 := (h.2.2 a ha).1
  rw [hat] at h1
  injection h1 with h1
  have h2 := (h.2.2 a ha).2
  rw [has_true_of_atKey hat] at h2
  obtain ⟨z, hz⟩ := Option.isSome_iff_exists.1 h2.symm
  rw [hz] at h1
  obtain ⟨q1, q2⟩ := look4_mem hz
  exact ⟨z, q1, q2, h1⟩
def TailP (w : World) (m : List B3) (e : Ending) (w' : World) : Prop := ∃ t, e = .returned (.int .i64 t) ∧ IsTail m t ∧ Below w.heap.size w w'
set_option maxRecDepth 1000000 in
set_option maxHeartbeats 4000000 in
theorem tail_calls {w0 w : World} {n : NB} {room : Int} {bs : List Int} {safe : Nat} {ep : Int} {m : List C4} (N : Nd w0 w n room bs safe ep m) :
    Calls Try.prog 14 #[.pointer (some ⟨n.gn, 0, none⟩)] w (TailP w (m.map C4.c3)) := by
  obtain ⟨_, _, c2, _⟩ := N.cells
  obtain ⟨D, hown, hA⟩ := N.map
  have hrg : ∀ c ∈ m, 0 ≤ c.at_ ∧ c.at_ ≤ 4095 := fun c hc => (N.rngc c hc).1
  have HA := Lib.hid hA; have HR := Lib.hid hrg
  have HO := Lib.hid hown
  clear N hA hrg
  go_enter Try.func14, Try.ntmps14
  go_wp2_with (first
    | (at_range; refine wpList_range_own _ rfl _ 54 rfl 3 34 keyedI Try.underlying54 RC4 n.mb m.length D rfl hown ?_; intro w1 hrg1 hg1 hs1)
    | go_in)
  go_frame
  have hB1 := Lib.hid (show Below w.heap.size w w1 from (Below.refl _ _).grown hg1 (Nat.le_refl _) (fun j hj => by cases hj))
  obtain ⟨r, hr⟩ : ∃ r, w.heap.size = r := ⟨_, rfl⟩
  rw [hr] at hrg1 hB1 ⊢
  have HRr := Lib.hid hr
  go_loopw [3] (fun v wx => ∃ (left : Lit → Bool) (cnt : Nat) (t : Int), v = .int .i64 t ∧ wx.ranges Try.prog 3 RC4 n.mb r m.length D left cnt ∧ TailI m left t ∧ Below r w wx) (fun _ wx => wx.rangeLeft n.mb r)
  case atStart => exact ⟨_, _, 0, rfl, hrg1, TailI.start HA.out HR.out, hB1.out⟩
  case round =>
    clear hg1 hs1 hrg1 hown hB1 hr c2
    obtain ⟨left, cnt, t, rfl, hrel⟩ := hrel
    have HRel := Lib.hid hrel
    have hrg := hrel.1
    obtain ⟨ht0, ht1, _⟩ := hrel.2.1
    clear hrel
    go_wp2_with (first
      | (at_next; refine wpList_next_ranges _ rfl _ rfl 3 keyedI RC4 (fun x : II => .int .i64 x.a) (fun x : VV => .agg #[.int .i64 x.a, .int .i64 x.e, .slice x.A x.n x.c]) (fun _ _ h => by obtain ⟨x, hx, _⟩ := keyOf_int_inv Try.underlying3 h; exact ⟨⟨x⟩, hx⟩) (fun _ _ h => RC4_shape h) n.mb r _ _ _ _ rfl hrg ?_ ?_)
      | go_in)
    · intro hc0 hl0
      have hd := HRel.out.2.1.done hl0
      have HD := Lib.hid (And.intro hd HRel.out.2.2)
      clear hrg hd hl0 hc0 HRel
      go_wp2
      go_ret
      exact ⟨t, rfl, HD.out.1, by rw [HRr.out]; exact HD.out.2⟩
    · intro ⟨a⟩ ⟨va, ve, vA, vn, vc⟩ kl y yp w2 cnt2 hkey hlk hv hat hrg2 hlt2 hg2 hs2 hen
      try simp only at hkey hv hen
      obtain ⟨a', ea, rfl, hwa⟩ := keyOf_int_inv Try.underlying3 hkey
      obtain rfl : a = a' := by injection ea
      have hyv := congrArg Prod.fst (RC4_inv hv)
      simp only at hyv
      obtain ⟨z, hz, hza, hzv⟩ := HA.out.entry hwa (v := .agg #[.int .i64 va, .int .i64 ve, .slice vA vn vc]) (fun zd => by rw [hat zd]; exact hyv)
      have hzr := HR.out z hz
      subst hza
      have hst := HRel.out.2.1.step HR.out hz
      have hb2 : Below r w w2 := HRel.out.2.2.grown hg2 (by rw [← HRr.out]; exact HRel.out.2.2.size) (fun j hj => by cases hj; exact Nat.le_refl _)
      have HX := Lib.hid (And.intro hrg2 (And.intro hst (And.intro hb2 (And.intro hlt2 hrg.left_eq))))
      clear hrg hrg2 hst hb2 hlt2 hg2 hs2 hkey hlk hat hv hyv hzv HRel ea hwa hz
      go_wp2
      go_roundw
      case rel => exact ⟨_, _, _, rfl, HX.out.1, HX.out.2.1, HX.out.2.2.1⟩
      case measure => rw [HX.out.1.left_eq, HX.out.2.2.2.2]; exact HX.out.2.2.2.1
end Go.Proofs.Ytdfpcldoakbehaa.Slot
