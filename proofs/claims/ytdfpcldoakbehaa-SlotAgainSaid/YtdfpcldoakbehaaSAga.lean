import Derived.Test.YtdfpcldoakbehaaSShown
import Derived.Lib.Bytes
/- SlotAgain. -/
namespace Go.Proofs.Ytdfpcldoakbehaa.Slot
open Go.RowKit Go.Maps Go.Proofs.YtdfpcldoakbehaaW.PrintWords Go.Proofs.YtdfpcldoakbehaaW.PrintMore Go.Proofs.YtdfpcldoakbehaaW.PrintLast Go.Proofs.Ytdfpcldoakbehaa.Row Go.Proofs.Ytdfpcldoakbehaa.Cut Go.Proofs.Ytdfpcldoakbehaa.DiskM Go.Proofs.Ytdfpcldoakbehaa.Quor
def one (k ep : Int) (b : List Int) : S3 := (0, [(k, ep, b)], Go.Proofs.Ytdfpcldoakbehaa.Crc.frameF (writeP ep.toNat k.toNat b))
theorem look_one (k ep : Int) (b : List Int) : look [(k, ep, b)] k = some (k, ep, b) := by unfold look; simp
theorem ag1 (k ep : Int) (b : List Int) (h0 : 0 ≤ k) (h1 : k < 4096) (h2 : 0 ≤ ep) (h3 : ep ≤ 65535) (h4 : b.length ≤ 2048) : writeF t0 ep k b = (0, one k ep b) := by
  unfold writeF
  rw [if_neg (by omega), if_neg (by unfold t0; simp only; omega)]
  show (0, noteF t0 (writeP ep.toNat k.toNat b)) = _
  rw [note_write t0 ep k b h2 (by omega) h0 h1 h4 h2 (.inl rfl)]
  rfl
theorem ag2 (k ep : Int) (b c : List Int) (h0 : 0 ≤ k) (h1 : k < 4096) (h2 : 0 ≤ ep) (h3 : ep ≤ 65535) (h4 : c.length ≤ 2048) : writeF (one k ep b) ep k c = (if b = c then 0 else 12, one k ep b) := by
  unfold writeF
  rw [if_neg (by omega), if_neg (by unfold one; simp only; omega)]
  show (match look [(k, ep, b)] k with | none => _ | some d => _) = _
  rw [look_one]
  simp only
  rw [if_pos (Int.le_refl _)]
  by_cases h : b = c
  · rw [if_pos ⟨trivial, h⟩, if_pos h]
  · rw [if_neg (fun e => h e.2), if_neg h]
theorem one_len (k ep : Int) (b : List Int) (h0 : 0 ≤ k) (h1 : k < 4096) (h4 : b.length ≤ 2048) : (one k ep b).2.2.length ≤ 2062 := by
  have q1 := writeP_len ep.toNat k.toNat b (by omega) h4
  have q2 := frame_len (writeP ep.toNat k.toNat b)
  show (Go.Proofs.Ytdfpcldoakbehaa.Crc.frameF (writeP ep.toNat k.toNat b)).length ≤ 2062
  omega
theorem ag_read (k ep : Int) (b : List Int) : readF (one k ep b).2.1 k = (0, (k, ep, b)) := by
  unfold readF one
  simp only
  rw [look_one]
theorem strOf_inj : ∀ {a b : List Int}, (∀ x ∈ a, 0 ≤ x ∧ x ≤ 255) → (∀ x ∈ b, 0 ≤ x ∧ x ≤ 255) → strOfNums a = strOfNums b → a = b := by
  intro a b ha hb h
  have h1 : (a.map fun n => UInt8.ofNat n.toNat) = b.map fun n => UInt8.ofNat n.toNat := by
    have := congrArg (fun t : ByteArray => t.data.toList) h
    simpa [strOfNums_data] using this
  clear h
  induction a generalizing b with
  | nil => cases b with
    | nil => rfl
    | cons y r => simp at h1
  | cons x l ih => cases b with
    | nil => simp at h1
    | cons y r =>
      rw [List.map_cons, List.map_cons] at h1
      injection h1 with e1 e2
      have q1 := ha x (by simp)
      have q2 := hb y (by simp)
      have e3 := congrArg UInt8.toNat e1
      rw [UInt8.toNat_ofNat', UInt8.toNat_ofNat', Nat.mod_eq_of_lt (by omega), Nat.mod_eq_of_lt (by omega)] at e3
      have : x = y := by omega
      rw [this, ih (fun z hz => ha z (by simp [hz])) (fun z hz => hb z (by simp [hz])) e2]
set_option maxRecDepth 1000000 in
set_option maxHeartbeats 8000000 in
theorem again_calls (a ep : Int) (ha : 0 ≤ a ∧ a ≤ 65535) (he : 0 ≤ ep ∧ ep ≤ 65535) (A1 : Option Addr) (c1 : Nat) (b : List Int) (A2 : Option Addr) (c2 : Nat) (c : List Int) (w : World) (hKb : (Kd.int .u8).C w A1 b.length b) (hKc : (Kd.int .u8).C w A2 c.length c) (hc1 : b.length ≤ c1) (hc2 : c.length ≤ c2) (hb : ∀ x ∈ b, 0 ≤ x ∧ x ≤ 255) (hc : ∀ x ∈ c, 0 ≤ x ∧ x ≤ 255)
    (hlb : b.length ≤ 140737488351232) (hlc : c.length ≤ 140737488351232) :
    Calls Try.prog 3 #[.int .u16 a, .int .u16 ep, .slice A1 b.length c1, .slice A2 c.length c2] w fun e w' => e = .returned (.bool true) ∧ Below w.heap.size w w' := by
  obtain ⟨k, hk⟩ : ∃ k, k = a % 4096 := ⟨_, rfl⟩
  have hk0 : 0 ≤ k := by omega
  have hk1 : k < 4096 := by omega
  have m1 : Int.tmod a 4096 = k := by rw [Int.tmod_eq_emod_of_nonneg ha.1]; exact hk.symm
  have m2 : IntKind.u16.wrap k = k := IntWalk.u16_in _ (by omega)
  have m3 : IntKind.i64.wrap k = k := IntWalk.i64_in _ (by omega)
  have m4 : IntKind.i64.wrap ep = ep := IntWalk.i64_in _ (by omega)
  have m5 : IntKind.i64.wrap (k + 1) = k + 1 := IntWalk.i64_in _ (by omega)
  obtain ⟨lb, hlb2⟩ : ∃ lb, lb = b.length := ⟨_, rfl⟩
  obtain ⟨lc, hlc2⟩ : ∃ lc, lc = c.length := ⟨_, rfl⟩
  have HB := Lib.hid (And.intro hKb (And.intro hc1 (And.intro hb hlb)))
  have HC := Lib.hid (And.intro hKc (And.intro hc2 (And.intro hc hlc)))
  have HK := Lib.hid hk
  have HE := Lib.hid (And.intro ha he)
  have HLb := Lib.hid hlb2; have HLc := Lib.hid hlc2
  rw [← hlb2] at hlb ⊢
  rw [← hlc2] at hlc ⊢
  have h1 := shown_calls w
  clear hKb hc1 hb hKc hc2 hc hlb2 hlc2 hk
  go_enter Try.func3, Try.ntmps3
  go_wp2_with fail
  refine h1.mono ?_
  rintro e w1 ⟨rfl, B1⟩
  have hnew := new_ok (w0 := w) 100000 B1 (by omega) (by omega)
  clear h1 B1
  go_wp2_with fail
  refine hnew.mono ?_
  rintro e w2 ⟨rfl, D, _⟩
  clear hnew
  generalize w1.heap.size = gd at D
  by_cases hbig : 2048 < lb ∨ 2048 < lc
  · have HD := Lib.hid D
    clear D
    rcases hbig with hbig | hbig
    · have hbi : (2048 : Int) < (lb : Int) := by omega
      go_wp2_with fail
      all_goals (go_ret; exact ⟨rfl, HD.out.below⟩)
    · have hbi : (2048 : Int) < (lc : Int) := by omega
      go_wp2_with fail
      all_goals (go_ret; exact ⟨rfl, HD.out.below⟩)
  · have hb1 : ¬ (2048 : Int) < (lb : Int) := by omega
    have hb2 : ¬ (2048 : Int) < (lc : Int) := by omega
    have hop := open_new D
    have HX := Lib.hid hbig
    clear D hbig
    go_wp2_with fail
    refine hop.mono ?_
    rintro e w3 ⟨n, g, rfl, N, _⟩
    have hw1 := write_ns N ep k A1 c1 b (Kd.C_below HB.out.1 N.all) HB.out.2.1 HB.out.2.2.1 (by have := HB.out.2.2.2; omega) (by decide)
    rw [show writeF (0, [], []) ep k b = (0, one k ep b) from ag1 k ep b hk0 hk1 HE.out.2.1 HE.out.2.2 (by have := HX.out; have := HLb.out; omega), ← HLb.out] at hw1
    clear hop N
    go_wp2_with fail
    refine hw1.mono ?_
    rintro e w4 ⟨n4, rfl, N, _⟩
    have hby := bytes_calls N.disk
    have HN := Lib.hid N
    obtain ⟨len, hlen⟩ : ∃ len, len = (one k ep b).2.2.length := ⟨_, rfl⟩
    have hlm := one_len k ep b hk0 hk1 (by have := HX.out; have := HLb.out; omega)
    rw [← hlen] at hby hlm
    have HLen := Lib.hid hlen
    clear hw1 N hlen
    go_wp2_with fail
    refine hby.mono ?_
    rintro e w5 ⟨gb, rfl, _, B5⟩
    have N := HN.out.below B5
    have hw2 := write_ns N ep k A1 c1 b (Kd.C_below HB.out.1 N.all) HB.out.2.1 HB.out.2.2.1 (by have := HB.out.2.2.2; omega) (by rw [← HLen.out]; omega)
    rw [ag2 k ep b b hk0 hk1 HE.out.2.1 HE.out.2.2 (by have := HX.out; have := HLb.out; omega), if_pos rfl, ← HLb.out] at hw2
    clear hby N B5 HN
    go_wp2_with fail
    refine hw2.mono ?_
    rintro e w6 ⟨n6, rfl, N, _⟩
    obtain ⟨q, hq⟩ : ∃ q : Int, q = if b = c then 0 else 12 := ⟨_, rfl⟩
    have hw3 := write_ns N ep k A2 c2 c (Kd.C_below HC.out.1 N.all) HC.out.2.1 HC.out.2.2.1 (by have := HC.out.2.2.2; omega) (by rw [← HLen.out]; omega)
    rw [ag2 k ep b c hk0 hk1 HE.out.2.1 HE.out.2.2 (by have := HX.out; have := HLc.out; omega), ← HLc.out, ← hq] at hw3
    have HQ := Lib.hid hq
    clear hw2 N hq
    go_wp2_with fail
    refine hw3.mono ?_
    rintro e w7 ⟨n7, rfl, N, _⟩
    have hrd := read_ns N k (w64_of (by omega) (by omega))
    rw [ag_read] at hrd
    have HN := Lib.hid N
    clear hw3 N
    go_wp2_with fail
    refine hrd.mono ?_
    rintro e w8 ⟨z, rfl, hz, hO, B8⟩
    have hN8 := HN.out.below B8
    obtain ⟨za, ze, zb, zA, zc⟩ := z
    obtain ⟨rfl, rfl, rfl⟩ : za = k ∧ ze = ep ∧ zb = b := by
      have h1 := congrArg (fun t : B3 => t.1) hz
      have h2 := congrArg (fun t : B3 => t.2.1) hz
      have h3 := congrArg (fun t : B3 => t.2.2) hz
      exact ⟨h1, h2, h3⟩
    have hb8 := B8.alloc B8.size (.cells #[.int .i64 za, .int .i64 ze, .slice zA zb.length zc] 34)
    have hall := (hN8.below ((Below.refl _ _).alloc (Nat.le_refl _) (.cells #[.int .i64 za, .int .i64 ze, .slice zA zb.length zc] 34)))
    have hCb := Kd.C_below HB.out.1 hall.all
    have hCc := Kd.C_below HC.out.1 hall.all
    have hO2 := OwnB.below hO ((Below.refl _ _).alloc (Nat.le_refl _) (.cells #[.int .i64 za, .int .i64 ze, .slice zA zb.length zc] 34))
    obtain ⟨_, hzc, hzC⟩ := Kd.R_reads' hO2
    simp only at hzc hzC
    have s1 := Kd.C_string (c := c1) Try.underlying23 Try.underlying5 Try.underlying9 hCb
    have s2 := Kd.C_string (c := c2) Try.underlying23 Try.underlying5 Try.underlying9 hCc
    have s3 := Kd.C_string (c := zc) Try.underlying23 Try.underlying5 Try.underlying9 hzC
    rw [← HLc.out] at s2
    rw [← HLb.out] at s1 s2 s3 hall
    have HN8 := Lib.hid hN8
    have HB8 := Lib.hid hall
    clear hrd hz hO B8 hO2 hzc hzC hCb hCc hall hN8 hb8
    simp only [agg4]
    rw [← HLb.out]
    obtain ⟨S1, hS1⟩ : ∃ S1, S1 = strOfNums zb := ⟨_, rfl⟩
    obtain ⟨S2, hS2⟩ : ∃ S2, S2 = strOfNums c := ⟨_, rfl⟩
    rw [← hS1] at s1 s3
    rw [← hS2] at s2
    have hby2 := bytes_calls (HB8.out.disk)
    rw [← HLen.out] at hby2
    by_cases hbc : zb = c
    · have hq0 : q = 0 := by rw [HQ.out, if_pos hbc]
      have hss : S2 = S1 := by rw [hS1, hS2, hbc]
      subst hq0
      subst hss
      clear hS1 hS2 hbc
      go_wp2_with fail
      refine hby2.mono ?_
      rintro e w9 ⟨gb2, rfl, _, B9⟩
      have N9 := HB8.out.below B9
      have ht := tail_ns N9
      have HN9 := Lib.hid N9
      clear hby2 N9 B9
      go_wp2_with fail
      refine ht.mono ?_
      rintro e w10 ⟨t, rfl, hT, B10⟩
      obtain rfl : t = za + 1 := IsTail.uniq hT (tail_one (za, ze, zb) hk0)
      have HB10 := Lib.hid (below_step HN9.out.all B10)
      clear ht hT B10
      go_wp2_with fail
      go_ret
      exact ⟨rfl, HB10.out⟩
    · have hq0 : q = 12 := by rw [HQ.out, if_neg hbc]
      have hss : ¬ S1 = S2 := fun e => hbc (strOf_inj HB.out.2.2.1 HC.out.2.2.1 (hS1.symm.trans (e.trans hS2)))
      have hst : ¬ S1.toList = S2.toList := fun e => hss (ByteArray.ext (Array.toList_inj.1 (by rw [← ByteArray.toList_eq, ← ByteArray.toList_eq]; exact e)))
      subst hq0
      clear hS1 hS2 hbc
      go_wp2_with fail
      refine hby2.mono ?_
      rintro e w9 ⟨gb2, rfl, _, B9⟩
      have N9 := HB8.out.below B9
      have ht := tail_ns N9
      have HN9 := Lib.hid N9
      clear hby2 N9 B9
      go_wp2_with fail
      refine ht.mono ?_
      rintro e w10 ⟨t, rfl, hT, B10⟩
      obtain rfl : t = za + 1 := IsTail.uniq hT (tail_one (za, ze, zb) hk0)
      have HB10 := Lib.hid (below_step HN9.out.all B10)
      clear ht hT B10
      go_wp2_with fail
      go_ret
      refine ⟨?_, HB10.out⟩
      show Ending.returned (.bool _) = _
      simp [hst]
end Go.Proofs.Ytdfpcldoakbehaa.Slot
