import Derived.Test.YtdfpcldoakbehaaSShown
import Derived.Lib.MinMax
/- SlotTails. -/
namespace Go.Proofs.Ytdfpcldoakbehaa.Slot
open Go.RowKit Go.Maps Go.Proofs.YtdfpcldoakbehaaW.PrintWords Go.Proofs.YtdfpcldoakbehaaW.PrintMore Go.Proofs.YtdfpcldoakbehaaW.PrintLast Go.Proofs.Ytdfpcldoakbehaa.Row Go.Proofs.Ytdfpcldoakbehaa.Cut Go.Proofs.Ytdfpcldoakbehaa.DiskM Go.Proofs.Ytdfpcldoakbehaa.Quor
def Ones (s : S3) (top : Int) : Prop := s.1 = 0 ∧ (∀ c ∈ s.2.1, 0 ≤ c.1 ∧ c.1 ≤ 4095 ∧ c.2.1 = 0 ∧ c.2.2 = [1]) ∧ IsTail s.2.1 top
theorem Ones.rng {s : S3} {top : Int} (h : Ones s top) : 0 ≤ top ∧ top ≤ 4096 := by
  obtain ⟨_, h2, h3, _, h5⟩ := h
  refine ⟨h3, ?_⟩
  rcases h5 with h5 | ⟨c, hc, h5⟩
  · omega
  · have := (h2 c hc).2.1; omega
theorem ones0 : Ones (0, [], []) 0 := ⟨rfl, fun c hc => (by cases hc), by decide, fun c hc => (by cases hc), .inl rfl⟩
theorem tail_put {m : List B3} {t : Int} (h : IsTail m t) (c : B3) (hc : 0 ≤ c.1) : IsTail (putC c m) (max t (c.1 + 1)) := by
  obtain ⟨h1, h2, h3⟩ := h
  refine ⟨by omega, fun x hx => ?_, ?_⟩
  · rcases mem_put hx with rfl | hx
    · omega
    · have := h2 x hx; omega
  · by_cases hle : t ≤ c.1 + 1
    · exact .inr ⟨c, by unfold putC; simp, by omega⟩
    · rcases h3 with h3 | ⟨d, hd, h3⟩
      · omega
      · refine .inr ⟨d, ?_, by omega⟩
        unfold putC
        refine List.mem_cons_of_mem _ (List.mem_filter.2 ⟨hd, decide_eq_true (by omega)⟩)
theorem Ones.step {s : S3} {top : Int} (h : Ones s top) (a : Int) (h0 : 0 ≤ a) (h1 : a < 4096) :
    ∃ s', writeF s 0 a [1] = (0, s') ∧ Ones s' (max top (a + 1)) ∧ s'.2.2.length ≤ s.2.2.length + 15 ∧ readF s'.2.1 a = (0, (a, 0, [1])) := by
  obtain ⟨e1, e2, e3⟩ := h
  have hi : InW 0 a [1] := ⟨h0, h1, by decide, by decide, by decide⟩
  rcases writeF_cases s 0 a [1] with ⟨hn, _⟩ | ⟨_, hn, _⟩ | ⟨_, _, hl, hw⟩ | ⟨_, _, ⟨d, hl, hd, hne⟩, _⟩ | ⟨_, _, _, hw⟩
  · exact absurd hi hn
  · omega
  · refine ⟨s, hw, ⟨e1, e2, ?_⟩, by omega, by unfold readF; rw [hl]⟩
    have := e3.2.1 _ (look_mem hl).1
    simp only at this
    rw [show max top (a + 1) = top by omega]
    exact e3
  · obtain ⟨q1, q2⟩ := look_mem hl
    exact absurd (e2 d q1).2.2 hne
  · refine ⟨_, hw, ⟨e1, fun c hc => ?_, tail_put e3 (a, 0, [1]) h0⟩, ?_, ?_⟩
    · rcases mem_put hc with rfl | hc
      · exact ⟨h0, by simp only; omega, rfl, rfl⟩
      · exact e2 c hc
    · have := wrote_len s 0 a [1] hi
      simpa using this
    · unfold readF
      rw [look_wrote, if_pos rfl]
theorem all_nil {m : List B3} {out : List C4} (h : IsAll m out) {t : Int} (ht : IsTail m t) (hm : ∀ c ∈ m, 0 ≤ c.1) : out.length = 0 ↔ t = 0 := by
  constructor
  · intro h0
    have : out = [] := List.length_eq_zero_iff.1 h0
    subst this
    rcases ht.2.2 with h2 | ⟨c, hc, _⟩
    · exact h2
    · have := (h.1 c).2 hc; simp at this
  · intro h0
    subst h0
    cases out with
    | nil => rfl
    | cons x r =>
      have hx := (h.1 x.c3).1 (by simp)
      have h1 := ht.2.1 _ hx
      have h2 := hm _ hx
      omega
theorem all_last {m : List B3} {out : List C4} (h : IsAll m out) {t : Int} (ht : IsTail m t) (hm : ∀ c ∈ m, 0 ≤ c.1) {z : C4} (hz : out[out.length - 1]? = some z) : z.at_ = t - 1 := by
  have hzm : z ∈ out := List.mem_of_getElem? hz
  have hx := (h.1 z.c3).1 (List.mem_map.2 ⟨z, hzm, rfl⟩)
  have h1 : z.at_ + 1 ≤ t := ht.2.1 _ hx
  have h2 : 0 ≤ z.at_ := hm _ hx
  rcases ht.2.2 with h3 | ⟨c, hc, h3⟩
  · omega
  · obtain ⟨y, hy, rfl⟩ := List.mem_map.1 ((h.1 c).2 hc)
    obtain ⟨j, hj, hjy⟩ := List.mem_iff_getElem.1 hy
    obtain ⟨hl, hlz⟩ := List.getElem?_eq_some_iff.1 hz
    by_cases he : j = out.length - 1
    · subst he
      rw [hjy] at hlz
      rw [← hlz]
      have : y.at_ + 1 = t := h3
      omega
    · have := (List.pairwise_iff_getElem.1 h.2) j (out.length - 1) hj hl (by omega)
      rw [hjy, hlz] at this
      have : y.at_ + 1 = t := h3
      omega
theorem at_u16 {w : World} {A : Option Addr} {n : Nat} {l : List Int} (h : (Kd.int .u16).C w A n l) (i : Nat) (hi : i < n) : ∃ ad x, A = some ad ∧ l[i]? = some x ∧ w.cell? (ad.add i) = some (.int .u16 x) := by
  obtain ⟨hl, _, h⟩ := h
  obtain ⟨ad, hA, hc⟩ := h (by omega)
  have hil : i < l.length := by omega
  refine ⟨ad, l[i], hA, List.getElem?_eq_getElem hil, ?_⟩
  obtain ⟨cs, h1, h2, h3⟩ := hc i _ (List.getElem?_eq_getElem hil)
  have e : cs = [.int .u16 l[i]] := h2
  subst e
  have := h3 0 (.int .u16 l[i]) rfl
  have e1 : (Kd.int .u16).sz = 1 := rfl
  rw [e1, Nat.mul_one] at this
  simpa using this
set_option maxRecDepth 1000000 in
set_option maxHeartbeats 8000000 in
theorem tails_calls (A : Option Addr) (cc : Nat) (l : List Int) (w : World) (hK : (Kd.int .u16).C w A l.length l) (hby : ∀ x ∈ l, 0 ≤ x ∧ x ≤ 65535) :
    Calls Try.prog 4 #[.slice A l.length cc] w fun e w' => e = .returned (.bool true) ∧ Below w.heap.size w w' := by
  obtain ⟨ll, hl2⟩ : ∃ ll, ll = l.length := ⟨_, rfl⟩
  have HK := Lib.hid hK; have HBy := Lib.hid hby; have HL := Lib.hid hl2
  rw [← hl2]
  have h1 := shown_calls w
  clear hK hby hl2
  go_enter Try.func4, Try.ntmps4
  go_wp2_with fail
  refine h1.mono ?_
  rintro e w1 ⟨rfl, B1⟩
  have hnew := new_ok (w0 := w) 1048576 B1 (by omega) (by omega)
  clear h1 B1
  go_wp2_with fail
  refine hnew.mono ?_
  rintro e w2 ⟨rfl, D, _⟩
  clear hnew
  generalize w1.heap.size = gd at D
  have hop := open_new D
  clear D
  go_wp2_with fail
  refine hop.mono ?_
  rintro e w3 ⟨n0, g, rfl, N0, _⟩
  have HN0 := Lib.hid N0
  clear hop N0
  go_wp2_with fail
  go_loopw [7, 8] (fun t i wr => ∃ (k : Nat) (n : NB) (s : S3) (top : Int), k ≤ ll ∧ k ≤ 100 ∧ t = .int .i64 top ∧ i = .int .i64 k ∧ NS w wr n g gd 1048576 s ∧ Ones s top ∧ s.2.2.length ≤ 15 * k) (fun _ i _ => ll - (intOf i).toNat)
  case atStart => exact ⟨0, n0, _, 0, Nat.zero_le _, by decide, rfl, rfl, HN0.out, ones0, by decide⟩
  case round =>
    obtain ⟨k, n, s, top, hk, hk100, rfl, rfl, N, hO, hlen⟩ := hrel
    obtain ⟨top0, top1⟩ := hO.rng
    have hkk : (0 : Int) ≤ (k : Int) := by omega
    by_cases hlt : k < ll ∧ k < 100
    · obtain ⟨hk1, hk2⟩ := hlt
      obtain ⟨ad, x, hA, hx, hcell0⟩ := at_u16 HK.out k (by rw [← HL.out]; exact hk1)
      subst hA
      have hcell := pw_cell_below N.all hcell0
      have hxr := HBy.out x (List.mem_of_getElem? hx)
      have hk1i : (k : Int) < (ll : Int) := by omega
      have hk2i : (k : Int) < 100 := by omega
      obtain ⟨a, ha⟩ : ∃ a, a = x % 4096 := ⟨_, rfl⟩
      have ha0 : 0 ≤ a := by omega
      have ha1 : a < 4096 := by omega
      have m1 : Int.tmod x 4096 = a := by rw [Int.tmod_eq_emod_of_nonneg hxr.1]; exact ha.symm
      have m2 : IntKind.u16.wrap a = a := IntWalk.u16_in _ (by omega)
      have m3 : IntKind.i64.wrap a = a := IntWalk.i64_in _ (by omega)
      have m5 : IntKind.i64.wrap (a + 1) = a + 1 := IntWalk.i64_in _ (by omega)
      obtain ⟨s', hw, hO', hlen', hrd⟩ := hO.step a ha0 ha1
      have hwr := write_ns' (N.below ((Below.refl _ _).alloc (Nat.le_refl _) (.cells (nums .u8 [1]).toArray 5))) 0 a (some ⟨wr.heap.size, 0, none⟩) 1 [1] (lit_C _ _ _ _ (by decide)) (by decide) (by1 _ (by omega)) (by decide) (by simp only [List.length_singleton]; omega)
      rw [hw] at hwr
      obtain ⟨mt, hmt⟩ : ∃ mt, mt = max top (a + 1) := ⟨_, rfl⟩
      have hmt' := hmt.symm
      rw [← hmt] at hO'
      have HO' := Lib.hid hO'
      have HS := Lib.hid (And.intro hlen' (And.intro hlen hrd))
      have HM := Lib.hid ha
      clear N hx hcell0 hO hw hO' hlen' hlen ha hrd hmt
      go_wp2_with fail
      refine hwr.mono ?_
      rintro e w4 ⟨n4, rfl, N4, _⟩
      have hre := read_ns N4 a (w64_of (by omega) (by omega))
      rw [HS.out.2.2] at hre
      have HN4 := Lib.hid N4
      clear hwr N4
      go_wp2_with fail
      refine hre.mono ?_
      rintro e w5 ⟨⟨za, ze, zb, zA, zc⟩, rfl, _, hOw, B5⟩
      have N5 := (HN4.out.below B5).below ((Below.refl _ _).alloc (Nat.le_refl _) (.cells #[.int .i64 za, .int .i64 ze, .slice zA zb.length zc] 34))
      have hta := tail_ns N5
      have HN5 := Lib.hid N5
      clear hre hOw B5 N5
      simp only [agg4]
      go_wp2_with fail
      refine hta.mono ?_
      rintro e w6 ⟨t, rfl, hT, B6⟩
      obtain rfl : t = mt := IsTail.uniq hT HO'.out.2.2
      have HN6 := Lib.hid (HN5.out.below B6)
      clear hta hT B6
      go_wp2_with fail
      go_roundw
      case rel => exact ⟨k + 1, n4, s', t, by omega, by omega, rfl, by go_num, HN6.out, HO'.out, by have := HS.out.1; have := HS.out.2.1; omega⟩
      case measure => simp [intOf]; omega
    · have hse := seal_ns N 1 (by have := hlen; omega)
      have HN := Lib.hid N; have HO := Lib.hid hO
      have hcond : (ll : Int) ≤ (k : Int) ∨ (k : Int) < (ll : Int) ∧ 100 ≤ (k : Int) := by omega
      have HX := Lib.hid hlen
      clear N hO hlen hlt
      obtain ⟨rr, hrr, hsc⟩ : ∃ s', sealF s 1 = (0, s') ∧ s'.2.1 = s.2.1 := by
        rcases sealF_cases s 1 (by rw [HO.out.1]; decide) with ⟨hb, _⟩ | ⟨_, _, h⟩
        · rw [HO.out.1] at hb; omega
        · exact ⟨_, h, rfl⟩
      rw [hrr] at hse
      have HSC := Lib.hid hsc
      clear hrr hsc
      rcases hcond with hcond | ⟨hcond, hcond2⟩
      all_goals
        go_wp2_with fail
        refine hse.mono ?_
        rintro e w4 ⟨v, out, n4, rfl, hR, _, hA, N4, _⟩
        rw [if_pos rfl, HSC.out] at hA
        obtain ⟨B, c, rfl⟩ := Kd.R_slice hR
        obtain ⟨_, hc, hC⟩ := Kd.R_reads' hR
        obtain ⟨m, hm⟩ : ∃ m, m = out.length := ⟨_, rfl⟩
        rw [← hm] at hC hc ⊢
        have hnil := all_nil hA HO.out.2.2 (fun c hc => (HO.out.2.1 c hc).1)
        have hlast := fun z => all_last hA HO.out.2.2 (fun c hc => (HO.out.2.1 c hc).1) (z := z)
        rw [← hm] at hnil hlast
        have hmm : m ≤ 9223372036854775807 := hC.2.1
        have HC := Lib.hid hC; have HA := Lib.hid hA; have HLa := Lib.hid hlast; have HB4 := Lib.hid N4.all; have HNil := Lib.hid hnil; have HMm := Lib.hid hm
        clear hse hR hA N4 hC hlast hnil hm
        go_wp2_with fail
        go_loopw [14] (fun i wx => ∃ j : Nat, (j ≤ m ∨ j = 0) ∧ i = .int .i64 ((j : Int) + 1) ∧ Below w4.heap.size w4 wx) (fun i _ => m + 2 - (intOf i).toNat)
        case atStart => exact ⟨0, .inr rfl, rfl, Below.refl _ _⟩
        case round =>
          obtain ⟨j, hj, rfl, hB⟩ := hrel
          by_cases hlt : j + 1 < m
          · have hlti : (j : Int) + 1 < (m : Int) := by omega
            have hj0 : (0 : Int) ≤ (j : Int) := by omega
            obtain ⟨ad, x, rfl, hx, a0, _, _⟩ := at_K4 (Kd.C_below HC.out hB) (j + 1) hlt
            obtain ⟨ad2, y, e2, hy, b0, _, _⟩ := at_K4 (Kd.C_below HC.out hB) j (by omega)
            obtain rfl := Option.some.inj e2
            have hno : ¬ x.at_ ≤ y.at_ := by
              obtain ⟨l1, q1⟩ := List.getElem?_eq_some_iff.1 hx
              obtain ⟨l2, q2⟩ := List.getElem?_eq_some_iff.1 hy
              have := (List.pairwise_iff_getElem.1 HA.out.2) j (j + 1) l2 l1 (by omega)
              rw [q1, q2] at this
              omega
            have HB := Lib.hid hB
            clear hx hy e2 hB
            go_wp2_with fail
            go_quiet (fail)
            go_wp2_with fail
            go_roundw
            case rel => exact ⟨j + 1, .inl (by omega), by go_num, pw_below_drewN HB.out _⟩
            case measure => simp [intOf]; omega
          · have hlti : (m : Int) ≤ (j : Int) + 1 := by omega
            have HB := Lib.hid hB
            by_cases hm0 : m = 0
            · have ht0 : top = 0 := HNil.out.1 hm0
              subst hm0
              clear hB hj hlt
              subst ht0
              go_wp2_with fail
              go_ret
              exact ⟨rfl, below_step HB4.out HB.out⟩
            · have ht0 : ¬ top = 0 := fun e => hm0 (HNil.out.2 e)
              obtain ⟨ad, x, rfl, hx, a0, _, _⟩ := at_K4 (Kd.C_below HC.out hB) (m - 1) (by omega)
              have hxt := HLa.out x hx
              have u1 : IntKind.i64.wrap ((m : Int) - 1) = (m : Int) - 1 := IntWalk.i64_in _ (by omega)
              have u2 : IntKind.i64.wrap (top - 1) = top - 1 := IntWalk.i64_in _ (by omega)
              have u3 : 0 ≤ (m : Int) - 1 := by omega
              have u4 : (m : Int) - 1 < (m : Int) := by omega
              have u5 : ((m : Int) - 1).toNat = m - 1 := by omega
              have u6 : ¬ (m : Int) = 0 := by omega
              have u7 : ((m : Int) == 0) = false := beq_eq_false_iff_ne.2 u6
              have u8 : (top == 0) = false := beq_eq_false_iff_ne.2 ht0
              rw [hxt] at a0
              clear hB hj hlt hx
              go_wp2_with fail
              go_ret
              exact ⟨rfl, below_step HB4.out HB.out⟩
end Go.Proofs.Ytdfpcldoakbehaa.Slot
