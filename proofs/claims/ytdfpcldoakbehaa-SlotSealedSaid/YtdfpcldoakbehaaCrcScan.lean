import Derived.Test.YtdfpcldoakbehaaCrcOpen
import Derived.Test.YtdfpcldoakbehaaWInvWords
import Derived.Test.YtdfpcldoakbehaaWApart
/- The walk of crc.Scan. -/
namespace Go.Proofs.Ytdfpcldoakbehaa.Crc
open Go.RowKit Go.Proofs.YtdfpcldoakbehaaW.PrintWords Go.Proofs.Ytdfpcldoakbehaa.Cut Go.Proofs.Ytdfpcldoakbehaa.Pack
abbrev KB : Kd (List Int) := Kd.slice 5 (Kd.int .u8)
/-- What crc.Scan answers, from place at on. -/
def scanGo : Nat → List Int → Nat → List (List Int) × Nat
  | 0, _, at_ => ([], at_)
  | k + 1, l, at_ => if at_ < l.length then (if (openF (l.drop at_)).2.2 ≠ 0 then ([], at_) else ((openF (l.drop at_)).1 :: (scanGo k l (at_ + (openF (l.drop at_)).2.1.toNat)).1, (scanGo k l (at_ + (openF (l.drop at_)).2.1.toNat)).2)) else ([], at_)
def scanF (l : List Int) : List (List Int) × Nat := scanGo (l.length + 1) l 0
theorem openF_ok (l : List Int) (h : (openF l).2.2 = 0) : 0 < (openF l).2.1 ∧ (openF l).2.1 ≤ l.length ∧ (openF l).1.length ≤ 4096 := by
  obtain ⟨sp1, sp2, sp3⟩ := uintR_spec l
  unfold openF at h ⊢
  simp only at h ⊢
  split at h
  · rename_i h1
    exact absurd h h1
  · rename_i h1
    rw [if_neg h1]
    split at h
    · simp at h
    · rename_i h2
      rw [if_neg h2]
      split at h
      · simp at h
      · rename_i h3
        rw [if_neg h3]
        split at h
        · simp at h
        · rename_i h4
          rw [if_neg h4]
          refine ⟨?_, ?_, ?_⟩
          · show (0 : Int) < ((_ : Nat) : Int); omega
          · show (((_ : Nat) : Int)) ≤ _; omega
          · show ((l.drop _).take _).length ≤ 4096
            rw [List.length_take, List.length_drop]; omega
/-- Behind acc, from place p on, the rest. -/
def ScanI (l : List Int) (p : Nat) (acc : List (List Int)) : Prop := ∃ k, l.length < k + p ∧ (acc ++ (scanGo k l p).1, (scanGo k l p).2) = scanF l
theorem ScanI.fin {l : List Int} {acc : List (List Int)} (h : ScanI l l.length acc) : scanF l = (acc, l.length) := by
  obtain ⟨k, hk, h⟩ := h
  rw [← h]
  cases k with
  | zero => simp [scanGo]
  | succ k => simp [scanGo]
theorem ScanI.step {l : List Int} {p : Nat} {acc : List (List Int)} (h : ScanI l p acc) (hp : p < l.length) {x : List Int} {m er : Int} (ho : openF (l.drop p) = (x, m, er)) :
    (er ≠ 0 → scanF l = (acc, p)) ∧ (er = 0 → ScanI l (p + m.toNat) (acc ++ [x])) := by
  obtain ⟨k, hk, h⟩ := h
  obtain ⟨k, rfl⟩ : ∃ j, k = j + 1 := ⟨k - 1, by omega⟩
  have hok := openF_ok (l.drop p)
  rw [scanGo, if_pos hp, ho] at h
  rw [ho] at hok
  constructor
  · intro he
    rw [if_pos he] at h
    rw [← h]; simp
  · intro he
    rw [if_neg (by simpa using he)] at h
    have hm := (hok he).1
    simp only at hm
    exact ⟨k, by omega, by rw [← h]; simp⟩
theorem info22 : (Try.prog.info? 23).map (fun i => (i.zero, i.size, i.bytes)) = some (some (.slice none 0 0), 1, 24) := by kernel_rfl
def ScanP (w : World) (r : List (List Int) × Nat) (e : Ending) (w' : World) : Prop := ∃ v, e = .returned (.tuple #[v, .int .i64 r.2]) ∧ Kd.S KB 23 w' w.heap.size (fun _ => True) v r.1 ∧ Below w.heap.size w w'
set_option maxRecDepth 1000000 in
set_option maxHeartbeats 1600000 in
theorem scan_calls (A : Option Addr) (n c : Nat) (l : List Int) (w : World) (hl : l.length = n) (hnc : n ≤ c) (hn : n ≤ 16777216) (hC : (Kd.int .u8).C w A n l) (hby : ∀ x ∈ l, 0 ≤ x ∧ x ≤ 255) :
    Calls Try.prog 31 #[.slice A n c] w (ScanP w (scanF l)) := by
  subst hl
  have HC := Lib.hid hC; have HBy := Lib.hid hby
  clear hC hby
  go_enter Try.func31, Try.ntmps31
  go_wp2
  go_step3
  go_wp2
  go_step3
  go_wp2
  go_loopw [4, 5] (fun v a wr => ∃ (p : Nat) (acc : List (List Int)), a = .int .i64 p ∧ p ≤ l.length ∧ acc.length ≤ p ∧ Kd.S KB 23 wr w.heap.size (fun _ => True) v acc ∧ Below w.heap.size w wr ∧ ScanI l p acc) (fun _ a _ => l.length - (intOf a).toNat)
  case atStart => exact ⟨0, [], rfl, Nat.zero_le _, Nat.le_refl _, Kd.S_nil _ _ _ _ _, Below.refl _ _, ⟨l.length + 1, by omega, rfl⟩⟩
  case round =>
    obtain ⟨p, acc, rfl, hp, hacc, hr, hb, hi⟩ := hrel
    have HR := Lib.hid hr; have HB := Lib.hid hb; have HI := Lib.hid hi
    clear hr hb hi
    by_cases hlt : p < l.length
    · have hlti : (p : Int) < (l.length : Int) := by omega
      obtain ⟨A1, R, hR, hRC, hRc, hcut⟩ := tail_cut (P := Try.prog) (d := Kd.int .u8) 23 5 .i64 Try.underlying23 info5 rfl HC.out hnc (p : Int) p rfl (by omega)
      have hRl : R.length ≤ 16777216 := by rw [hR, List.length_drop]; omega
      have hRb : ∀ x ∈ R, 0 ≤ x ∧ x ≤ 255 := fun x hx => HBy.out x (List.mem_of_mem_drop (hR ▸ hx))
      have HRC := Lib.hid (Kd.C_below hRC HB.out); have HRb := Lib.hid hRb; have HRR := Lib.hid hR
      clear hRC hRb hR
      go_wp2_with fail
      refine (open_calls A1 R.length (c - p) R _ rfl hRc (by omega) HRC.out HRb.out).mono ?_
      rintro e w2 ⟨v2, rfl, hr2, hb2⟩
      have hok := openF_ok R
      obtain ⟨⟨x, m, er⟩, ho⟩ : ∃ r, openF R = r := ⟨_, rfl⟩
      have hro : openF (l.drop p) = (x, m, er) := by rw [← HRR.out]; exact ho
      rw [ho] at hr2 hok ⊢
      simp only at hr2 hok ⊢
      have hst := HI.out.step hlt hro
      have HR2 := Lib.hid hr2; have HB2 := Lib.hid (below_step HB.out hb2); have HRb2 := Lib.hid (Kd.S_below HR.out hb2); have HRo2 := Lib.hid (Kd.S_mono (ok' := fun k => True ∧ ¬ wr.heap.size ≤ k) (Kd.S_old HR.out hb2) (fun k hk => ⟨trivial, by have := hk.2; omega⟩)); have hlt4 := Kd.S_lt HR.out
      have hsz := hb2.size
      have hRp : R.length = l.length - p := by rw [HRR.out, List.length_drop]
      clear hr2 hb2 ho hro HRC HRb HRR
      by_cases her : er = 0
      · subst her
        obtain ⟨hm0, hm1, _⟩ := hok rfl
        obtain ⟨q, rfl⟩ := Int.eq_ofNat_of_zero_le (show 0 ≤ m by omega)
        have hst' := hst.2 rfl
        have HSt := Lib.hid hst'
        obtain ⟨A2, c2, rfl⟩ := Kd.R_slice HR2.out
        have hpq : p + q ≤ l.length := by omega
        have hM : KB.M w2 w.heap.size (fun k => wr.heap.size ≤ k) x [.slice A2 x.length c2] :=
          ⟨_, rfl, Kd.R_flat (fun h => h) (Kd.R_lower HR2.out HB.out.size) fun k hk _ => Kd.R_base HR2.out k hk⟩
        have h4 : ∀ k, wr.heap.size ≤ k → True ∧ some k ≠ u4.ownBlock := fun k hk => ⟨trivial, fun e => by have := hlt4 k e.symm; omega⟩
        have H4 := Lib.hid h4
        have HM := Lib.hid hM
        clear hst hst' hok hM h4 hlt4
        go_wp2_with (at_builtin; refine Kd.S_append KB (w0 := w) w.heap.size rfl _ _ 73 23 (.slice none 0 0) 24 rfl Try.underlying73 info22 rfl (Nat.lt_succ_self 0) (by decide) u4 acc x [.slice A2 x.length c2] (fun _ => True) (fun k => wr.heap.size ≤ k) rfl rfl HM.out H4.out (fun _ _ => trivial) HRo2.out HB2.out HB2.out.size (by omega) ?_; intro v3 w3 hr3 hb3 _ _)
        have HR3 := Lib.hid hr3; have HB3 := Lib.hid hb3
        clear hr3 hb3
        go_wp2
        go_roundw
        case rel => exact ⟨p + q, acc ++ [x], by go_num, hpq, by rw [List.length_append]; simp; omega, HR3.out, HB3.out, HSt.out⟩
        case measure => simp [intOf]; omega
      · have hne : (er != 0) = true := bne_iff_ne.2 her
        have HSt := Lib.hid (hst.1 her)
        clear hst hok hlt4
        go_wp2
        rw [Exit.noGoto_ret]
        go_ret2
        rw [HSt.out]
        exact ⟨_, rfl, HRb2.out, HB2.out⟩
    · obtain rfl : p = l.length := by omega
      have HSt := Lib.hid HI.out.fin
      go_wp2
      rw [Exit.noGoto_ret]
      go_ret2
      rw [HSt.out]
      exact ⟨_, rfl, HR.out, HB.out⟩
end Go.Proofs.Ytdfpcldoakbehaa.Crc
