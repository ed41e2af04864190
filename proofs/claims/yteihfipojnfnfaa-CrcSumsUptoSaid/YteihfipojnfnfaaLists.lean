import Derived.Test.YteihfipojnfnfaaCrcScan
/- The walk of the document's Lists. -/
namespace Go.Proofs.Yteihfipojnfnfaa.Crc
open Go.RowKit Go.Proofs.YteihfipojnfnfaaW.PrintWords Go.Proofs.YteihfipojnfnfaaW.PrintMore Go.Proofs.Yteihfipojnfnfaa.Cut Go.Proofs.Yteihfipojnfnfaa.Pack
def strs (l : List (List Int)) : List ByteArray := l.map strOfNums
def sameB (l k : List (List Int)) : Bool := decide (strs l = strs k)
theorem at_row {w : World} {A : Option Addr} {n : Nat} {l : List (List Int)} (h : KB.C w A n l) (i : Nat) (hi : i < n) : ∃ ad x Ai ci, A = some ad ∧ l[i]? = some x ∧ w.cell? (ad.add i) = some (.slice Ai x.length ci) ∧ (Kd.int .u8).C w Ai x.length x := by
  obtain ⟨hl, _, h⟩ := h
  obtain ⟨ad, hA, hc⟩ := h (by omega)
  have hil : i < l.length := by omega
  obtain ⟨cs, _, hk, hat⟩ := hc i (l[i]) (List.getElem?_eq_getElem hil)
  obtain ⟨Ai, ci, rfl, _, hC⟩ := hk
  refine ⟨ad, l[i], Ai, ci, hA, List.getElem?_eq_getElem hil, ?_, hC⟩
  have := hat 0 _ rfl
  have e1 : KB.sz = 1 := rfl
  rwa [e1, Nat.mul_one, Nat.add_zero] at this
theorem conv_drew {w : World} {A : Option Addr} {n c : Nat} {xs : List Int} (h : (Kd.int .u8).C w A n xs) (S : ByteArray) (hS : strOfNums xs = S) : ∀ m, (convert 22 9 (.slice A n c)).run Try.prog (w.drewN m) = .ok (.string S) (w.drewN m) := fun m => by
  have hl := h.1
  subst hl
  rw [← hS]
  exact Kd.C_string Try.underlying22 Try.underlying5 Try.underlying9 (Kd.C_below h (Drawn0.step (Drawn0.refl w) m).below)
theorem strs_len {l k : List (List Int)} (h : l.length ≠ k.length) : sameB l k = false := by
  unfold sameB strs
  exact decide_eq_false fun e => h (by have := congrArg List.length e; simpa using this)
theorem strs_snoc {l k : List (List Int)} {p : Nat} {x y : List Int} (hx : l[p]? = some x) (hy : k[p]? = some y) (h : strs (l.take p) = strs (k.take p)) (he : strOfNums x = strOfNums y) : strs (l.take (p + 1)) = strs (k.take (p + 1)) := by
  obtain ⟨hl, rfl⟩ := List.getElem?_eq_some_iff.1 hx
  obtain ⟨hk, rfl⟩ := List.getElem?_eq_some_iff.1 hy
  unfold strs at h ⊢
  rw [List.take_succ_eq_append_getElem hl, List.take_succ_eq_append_getElem hk, List.map_append, List.map_append, h, List.map_cons, List.map_cons, he]
theorem strs_ne {l k : List (List Int)} {p : Nat} {x y : List Int} (hx : l[p]? = some x) (hy : k[p]? = some y) (he : strOfNums x ≠ strOfNums y) : sameB l k = false := by
  unfold sameB strs
  refine decide_eq_false fun e => he ?_
  have := congrArg (fun z => z[p]?) e
  simpa [hx, hy] using this
theorem str_ne {S T : ByteArray} (h : S ≠ T) : (S == T) = false := by
  rw [beq_toListBytes]
  refine beq_eq_false_iff_ne.2 fun e => h ?_
  rw [ByteArray.toList_eq, ByteArray.toList_eq] at e
  obtain ⟨⟨x⟩⟩ := S
  obtain ⟨⟨y⟩⟩ := T
  simpa using e
set_option maxRecDepth 1000000 in
set_option maxHeartbeats 1600000 in
theorem lists_calls (A0 : Option Addr) (c0 : Nat) (l0 : List (List Int)) (A1 : Option Addr) (c1 : Nat) (l1 : List (List Int)) (w : World) (h0 : KB.C w A0 l0.length l0) (h1 : KB.C w A1 l1.length l1) :
    Calls Try.prog 18 #[.slice A0 l0.length c0, .slice A1 l1.length c1] w fun e w' => e = .returned (.bool (sameB l0 l1)) ∧ Drawn0 w w' := by
  have b0 : l0.length ≤ 9223372036854775807 := h0.2.1
  have H0 := Lib.hid h0; have H1 := Lib.hid h1
  clear h0 h1
  by_cases hlen : l0.length = l1.length
  · have t1 : (l0.length != l1.length) = false := by simpa using hlen
    obtain ⟨n, hn⟩ : ∃ n, n = l0.length := ⟨_, rfl⟩
    rw [← hlen] at H1 ⊢
    rw [← hn] at H0 H1 b0 ⊢
    have HL := Lib.hid (And.intro hn (hn.trans hlen))
    clear hlen hn t1
    go_enter Try.func18, Try.ntmps18
    go_wp2
    go_loopw [5] (fun i wr => ∃ k : Nat, k ≤ n ∧ i = .int .i64 k ∧ Drawn0 w wr ∧ strs (l0.take k) = strs (l1.take k)) (fun i _ => n - (intOf i).toNat)
    case atStart => exact ⟨0, Nat.zero_le _, rfl, Drawn0.refl w, by simp [strs]⟩
    case round =>
      obtain ⟨k, hk, rfl, hd, hs⟩ := hrel
      have HD := Lib.hid hd; have HS := Lib.hid hs
      clear hd hs
      by_cases hlt : k < n
      · have hlti : (k : Int) < (n : Int) := by omega
        have hk0 : (0 : Int) ≤ (k : Int) := by omega
        obtain ⟨ad0, x0, B0, e0, hA0, hx0, hc0, hC0⟩ := at_row (w := wr) (by have := H0.out; exact Kd.C_below this HD.out.below) k hlt
        obtain ⟨ad1, x1, B1, e1, hA1, hx1, hc1, hC1⟩ := at_row (w := wr) (by have := H1.out; exact Kd.C_below this HD.out.below) k hlt
        subst hA0; subst hA1
        obtain ⟨S0, hS0⟩ : ∃ S, strOfNums x0 = S := ⟨_, rfl⟩
        obtain ⟨S1, hS1⟩ : ∃ S, strOfNums x1 = S := ⟨_, rfl⟩
        have cv0 := conv_drew (c := e0) hC0 S0 hS0
        have cv1 := conv_drew (c := e1) hC1 S1 hS1
        have HX := Lib.hid (And.intro (And.intro hx0 hx1) (And.intro hS0 hS1))
        clear hx0 hx1 hS0 hS1 hC0 hC1
        by_cases hss : S0 = S1
        · subst hss
          go_wp2
          go_cut [27] (fun t wx => t = .bool false ∧ Drawn0 w wx)
          case first =>
            go_quiet (fail)
            go_wp2
            go_meet
            case rel => exact ⟨rfl, HD.out.step _⟩
          case rest =>
            obtain ⟨rfl, hd⟩ := hcut
            have HD2 := Lib.hid hd
            have HS2 := Lib.hid (strs_snoc HX.out.1.1 HX.out.1.2 HS.out (HX.out.2.1.trans HX.out.2.2.symm))
            clear hd
            go_wp2
            go_roundw
            case rel => exact ⟨k + 1, by omega, by go_num, HD2.out, HS2.out⟩
            case measure => simp [intOf]; omega
        · have hb : (S0.toList == S1.toList) = false := by rw [← beq_toListBytes]; exact str_ne hss
          have HR := Lib.hid (strs_ne HX.out.1.1 HX.out.1.2 (by rw [HX.out.2.1, HX.out.2.2]; exact hss))
          clear hss
          go_wp2
          go_cut [27] (fun t wx => t = .bool true ∧ Drawn0 w wx)
          case first =>
            go_quiet (fail)
            go_wp2
            go_meet
            case rel => exact ⟨rfl, HD.out.step _⟩
          case rest =>
            obtain ⟨rfl, hd⟩ := hcut
            have HD2 := Lib.hid hd
            clear hd
            go_wp2
            go_ret
            exact ⟨by rw [HR.out]; rfl, HD2.out⟩
      · obtain rfl : k = n := by omega
        have hfin : sameB l0 l1 = true := by
          have := HS.out
          rw [List.take_of_length_le (by rw [← HL.out.1]; exact Nat.le_refl _), List.take_of_length_le (by rw [← HL.out.2]; exact Nat.le_refl _)] at this
          exact decide_eq_true this
        have HF := Lib.hid hfin
        clear hfin
        go_wp2
        go_ret
        exact ⟨by rw [HF.out]; rfl, HD.out⟩
  · have t1 : ((l0.length : Int) != (l1.length : Int)) = true := bne_iff_ne.2 (by omega)
    have t2 : (l0.length != l1.length) = true := bne_iff_ne.2 hlen
    have t3 : (l0.length == l1.length) = false := beq_eq_false_iff_ne.2 hlen
    have HR := Lib.hid (strs_len hlen)
    clear hlen
    go_enter Try.func18, Try.ntmps18
    go_wp2
    go_ret
    exact ⟨by rw [HR.out]; rfl, Drawn0.refl w⟩
end Go.Proofs.Yteihfipojnfnfaa.Crc
