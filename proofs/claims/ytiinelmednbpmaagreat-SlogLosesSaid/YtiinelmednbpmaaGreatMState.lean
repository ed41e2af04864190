import Derived.Test.YtiinelmednbpmaaGreatCrcScan
import Derived.Test.YtiinelmednbpmaaGreatProg
import Derived.Test.YtiinelmednbpmaaGreatRow
import Derived.Test.YtiinelmednbpmaaGreatCut
import Derived.Outline
import Derived.BigQuiet
import Derived.Deep.QuietTactic
import Derived.Deep.DeepCutAuto
import Derived.Deep.RegionHeld3
import Derived.Test.YtiinelmednbpmaaGreatWWords
import Derived.Test.YtiinelmednbpmaaGreatWMore
import Derived.Lib.Hide
import Derived.KernelRfl
import Derived.WalkKit
import Derived.Deep.RegionWith
import Derived.Deep.CutBlock
import Derived.OwnWalk
import Derived.StillTailTactics
import Derived.RegionTactic
import Derived.BigRegion
import Derived.Maps.AppendAt
import Derived.WalkSpells
import Derived.Maps.RangeWalk
import Derived.Maps.OwnSet
import Derived.Maps.Views
import Derived.WalkArith
/- Plain laws of frames: what is framed is opened; more behind plays no part; what is cut isn't opened. -/
namespace Go.Proofs.YtiinelmednbpmaaGreat.Crc
open Go.RowKit Go.Proofs.YtiinelmednbpmaaGreat.Pack
/-- A number's bytes (up to 16383). -/
def uintB (n : Nat) : List Int := if n < 128 then [(n : Int)] else [(n : Int) % 128 + 128, (n : Int) / 128]
def frameF (b : List Int) : List Int := uintB b.length ++ b ++ fourL (sumOf b)
theorem fourL_len (a : Int) : (fourL a).length = 4 := rfl
theorem uintB_len (n : Nat) : (uintB n).length = if n < 128 then 1 else 2 := by unfold uintB; split <;> rfl
theorem frameF_len (b : List Int) : (frameF b).length = (uintB b.length).length + b.length + 4 := by simp [frameF, fourL_len]; omega
theorem uintR_uintB (n : Nat) (hn : n ≤ 4096) (rest : List Int) : uintR (uintB n ++ rest) = ((n : Int), 0, (uintB n).length) := by
  unfold uintR uintB
  split
  · rename_i h
    rw [uintGo]
    simp
    rw [if_neg (by omega)]
    congr 1
    omega
  · rename_i h
    rw [uintGo]
    simp
    rw [if_pos (by omega), uintGo]
    simp
    rw [if_neg (by omega), if_neg (by omega)]
    congr 1
    omega
theorem sumOf_rng (X : List Int) : 0 ≤ sumOf X ∧ sumOf X < 4294967296 := sumOf_range X
theorem openF_frame (b : List Int) (hb : b.length ≤ 4096) (rest : List Int) : openF (frameF b ++ rest) = (b, ((frameF b).length : Int), 0) := by
  have hu : uintR (frameF b ++ rest) = ((b.length : Int), 0, (uintB b.length).length) := by
    unfold frameF
    rw [List.append_assoc, List.append_assoc]
    exact uintR_uintB b.length hb _
  have hl := frameF_len b
  have e0 : frameF b ++ rest = uintB b.length ++ (b ++ (fourL (sumOf b) ++ rest)) := by unfold frameF; simp [List.append_assoc]
  have e1 : (frameF b ++ rest).drop (uintB b.length).length = b ++ (fourL (sumOf b) ++ rest) := by rw [e0]; exact List.drop_left
  have e2 : (frameF b ++ rest).drop ((uintB b.length).length + b.length) = fourL (sumOf b) ++ rest := by
    rw [← List.drop_drop, e1]; exact List.drop_left
  unfold openF
  rw [hu]
  simp only [Int.toNat_natCast]
  rw [e1, e2]
  have e3 : (b ++ (fourL (sumOf b) ++ rest)).take b.length = b := List.take_left
  have e4 : (fourL (sumOf b) ++ rest).take 4 = fourL (sumOf b) := by
    rw [show (4 : Nat) = (fourL (sumOf b)).length from rfl]; exact List.take_left
  rw [e3, e4, if_neg (by simp), if_neg (by omega), if_neg (by rw [List.length_append]; omega), if_neg (by simp)]
  rw [hl]
/-- What was read well is read so with more behind. -/
theorem uintGo_more : ∀ (k : Nat) (l m : List Int) (i : Nat) (x : Int), i ≤ l.length → (uintGo k l i x).2.1 = 0 → uintGo k (l ++ m) i x = uintGo k l i x
  | 0, l, m, i, x, _, h => by unfold uintGo at h; split at h <;> simp at h
  | k + 1, l, m, i, x, hi, h => by
    rw [uintGo] at h ⊢
    conv => rhs; rw [uintGo]
    by_cases e : i = l.length
    · rw [if_pos e] at h; simp at h
    · have hlt : i < l.length := by omega
      have hg : (l ++ m).getD i 0 = l.getD i 0 := by
        rw [List.getD_eq_getElem?_getD, List.getD_eq_getElem?_getD, List.getElem?_append_left hlt]
      rw [if_neg e] at h ⊢
      rw [if_neg (by rw [List.length_append]; omega), hg]
      split
      · rename_i h1
        rw [if_pos h1] at h
      · rename_i h1
        rw [if_neg h1] at h
        split
        · rename_i h2
          rw [if_pos h2] at h
          exact uintGo_more k l m (i + 1) _ (by omega) h
        · rfl
theorem openF_more (l m : List Int) (h : (openF l).2.2 = 0) : openF (l ++ m) = openF l := by
  have hu : (uintR l).2.1 = 0 := by
    unfold openF at h
    simp only at h
    by_cases e : (uintR l).2.1 ≠ 0
    · rw [if_pos e] at h; exact absurd h e
    · simpa using e
  have hm : uintR (l ++ m) = uintR l := uintGo_more 10 l m 0 0 (Nat.zero_le _) hu
  obtain ⟨sp1, sp2, _⟩ := uintR_spec l
  unfold openF at h ⊢
  simp only at h ⊢
  rw [hm]
  rw [if_neg (by simpa using hu)] at h ⊢
  conv => rhs; rw [if_neg (by simpa using hu)]
  by_cases h2 : 4096 < (uintR l).1
  · rw [if_pos h2] at h; simp at h
  · rw [if_neg h2] at h ⊢
    conv => rhs; rw [if_neg h2]
    by_cases h3 : ((l.length - (uintR l).2.2 : Nat) : Int) < (uintR l).1 + 4
    · rw [if_pos h3] at h; simp at h
    · rw [if_neg h3] at h
      conv => rhs; rw [if_neg h3]
      rw [if_neg (by rw [List.length_append]; omega)]
      obtain ⟨n, hn⟩ := Int.eq_ofNat_of_zero_le sp2
      rw [hn, Int.toNat_natCast]
      rw [hn] at h3
      have e1 : ((l ++ m).drop (uintR l).2.2).take n = (l.drop (uintR l).2.2).take n := by
        rw [List.drop_append_of_le_length (by omega), List.take_append_of_le_length (by rw [List.length_drop]; omega)]
      have e2 : ((l ++ m).drop ((uintR l).2.2 + n)).take 4 = (l.drop ((uintR l).2.2 + n)).take 4 := by
        rw [List.drop_append_of_le_length (by omega), List.take_append_of_le_length (by rw [List.length_drop]; omega)]
      rw [e1, e2]
/-- A frame that is cut isn't opened. -/
theorem openF_cut (b p q : List Int) (hb : b.length ≤ 4096) (h : frameF b = p ++ q) (hq : 0 < q.length) : (openF p).2.2 ≠ 0 := by
  intro h0
  have h1 := openF_more p q h0
  have h2 := openF_frame b hb []
  rw [List.append_nil, h, h1] at h2
  have h3 := (openF_ok p h0).2.1
  rw [h2] at h3
  simp only [List.length_append] at h3
  omega
/-! rows of frames -/
def framesF (l : List (List Int)) : List Int := l.flatMap frameF
theorem scan_frames : ∀ (l : List (List Int)) (k : Nat) (pre rest : List Int), (∀ b ∈ l, b.length ≤ 4096) → l.length < k →
    scanGo k (pre ++ framesF l ++ rest) pre.length = (l ++ (scanGo (k - l.length) (pre ++ framesF l ++ rest) (pre ++ framesF l).length).1, (scanGo (k - l.length) (pre ++ framesF l ++ rest) (pre ++ framesF l).length).2)
  | [], k, pre, rest, _, _ => by simp [framesF]
  | b :: r, k, pre, rest, hb, hk => by
    obtain ⟨k, rfl⟩ : ∃ j, k = j + 1 := ⟨k - 1, by simp at hk; omega⟩
    have hf : framesF (b :: r) = frameF b ++ framesF r := by simp [framesF]
    have hlen := frameF_len b
    have hd : (pre ++ framesF (b :: r) ++ rest).drop pre.length = frameF b ++ (framesF r ++ rest) := by
      rw [hf, List.append_assoc, List.drop_left, List.append_assoc]
    have ho : openF ((pre ++ framesF (b :: r) ++ rest).drop pre.length) = (b, ((frameF b).length : Int), 0) := by rw [hd]; exact openF_frame b (hb b (by simp)) _
    have hre : pre ++ framesF (b :: r) ++ rest = (pre ++ frameF b) ++ framesF r ++ rest := by rw [hf]; simp [List.append_assoc]
    have ih := scan_frames r k (pre ++ frameF b) rest (fun x hx => hb x (by simp [hx])) (by simp at hk; omega)
    rw [scanGo, if_pos (by rw [hf]; simp [hlen]; omega), ho]
    simp only [ne_eq, not_true, if_false, Int.toNat_natCast]
    have e1 : pre.length + (frameF b).length = (pre ++ frameF b).length := by simp
    rw [e1, hre, ih]
    have e2 : k + 1 - (b :: r).length = k - r.length := by simp
    rw [e2]
    have e3 : (pre ++ framesF (b :: r)).length = (pre ++ frameF b ++ framesF r).length := by rw [hf]; simp
    rw [e3]
    simp
/-- Whole frames, and behind them what isn't opened: just the frames are told. -/
theorem scanF_frames (l : List (List Int)) (rest : List Int) (hb : ∀ b ∈ l, b.length ≤ 4096) (hr : rest = [] ∨ (openF rest).2.2 ≠ 0) : scanF (framesF l ++ rest) = (l, (framesF l).length) := by
  have hlen : ∀ r : List (List Int), r.length ≤ (framesF r).length := by
    intro r
    induction r with
    | nil => simp
    | cons b r ih =>
      have : framesF (b :: r) = frameF b ++ framesF r := by simp [framesF]
      rw [this]
      have := frameF_len b
      simp; omega
  have h := scan_frames l ((framesF l ++ rest).length + 1) [] rest hb (by have := hlen l; simp; omega)
  rw [List.nil_append] at h
  unfold scanF
  simp only [List.length_nil] at h
  rw [h]
  obtain ⟨j, hj⟩ : ∃ j, (framesF l ++ rest).length + 1 - l.length = j + 1 := ⟨(framesF l ++ rest).length - l.length, by have := hlen l; simp; omega⟩
  rw [hj, scanGo]
  rcases hr with rfl | hr
  · simp
  · have hd : (framesF l ++ rest).drop (framesF l).length = rest := List.drop_left
    rw [hd, if_pos hr]
    by_cases e : (framesF l).length < (framesF l ++ rest).length
    · rw [if_pos e]; simp
    · rw [if_neg e]; simp
/-- What is scanned with more behind begins with what is scanned. -/
theorem scanGo_more : ∀ (k j : Nat) (l m : List Int) (p : Nat), p ≤ l.length → l.length < k + p → (l ++ m).length < j + p → (scanGo k l p).1 <+: (scanGo j (l ++ m) p).1 ∧ (scanGo k l p).2 ≤ (scanGo j (l ++ m) p).2 ∧ (scanGo k l p).2 ≤ l.length ∧ p ≤ (scanGo j (l ++ m) p).2
  | 0, j, l, m, p, hp, hk, _ => by omega
  | k + 1, j, l, m, p, hp, hk, hj => by
    obtain ⟨j, rfl⟩ : ∃ i, j = i + 1 := ⟨j - 1, by have := hj; rw [List.length_append] at this; omega⟩
    have mono : ∀ (i : Nat) (L : List Int) (q : Nat), q ≤ (scanGo i L q).2 := by
      intro i
      induction i with
      | zero => intro L q; simp [scanGo]
      | succ i ih =>
        intro L q
        rw [scanGo]
        split
        · split
          · exact Nat.le_refl _
          · exact Nat.le_trans (Nat.le_add_right _ _) (ih L _)
        · exact Nat.le_refl _
    rw [scanGo]
    by_cases hlt : p < l.length
    · rw [if_pos hlt]
      by_cases he : (openF (l.drop p)).2.2 ≠ 0
      · rw [if_pos he]
        exact ⟨List.nil_prefix, mono _ _ _, by simpa using hp, mono _ _ _⟩
      · rw [if_neg he]
        have h0 : (openF (l.drop p)).2.2 = 0 := by simpa using he
        have hm : openF ((l ++ m).drop p) = openF (l.drop p) := by
          rw [List.drop_append_of_le_length hp]; exact openF_more _ _ h0
        obtain ⟨q1, q2, _⟩ := openF_ok _ h0
        rw [List.length_drop] at q2
        have hp' : p + (openF (l.drop p)).2.1.toNat ≤ l.length := by omega
        obtain ⟨ih1, ih2, ih3, ih4⟩ := scanGo_more k j l m (p + (openF (l.drop p)).2.1.toNat) hp' (by omega) (by omega)
        conv => arg 1; rhs; rw [scanGo]
        rw [scanGo]
        rw [if_pos (by rw [List.length_append]; omega), hm, if_neg he]
        exact ⟨List.cons_prefix_cons.2 ⟨rfl, ih1⟩, ih2, ih3, by simp only; omega⟩
    · rw [if_neg hlt]
      exact ⟨List.nil_prefix, mono _ _ _, by simpa using hp, mono _ _ _⟩
theorem scanF_more (l m : List Int) : (scanF l).1 <+: (scanF (l ++ m)).1 ∧ (scanF l).2 ≤ (scanF (l ++ m)).2 ∧ (scanF l).2 ≤ l.length := by
  obtain ⟨h1, h2, h3, _⟩ := scanGo_more (l.length + 1) ((l ++ m).length + 1) l m 0 (Nat.zero_le _) (by omega) (by omega)
  exact ⟨h1, h2, h3⟩
theorem uintB_bytes (n : Nat) (hn : n ≤ 4096) : ∀ x ∈ uintB n, 0 ≤ x ∧ x ≤ 255 := by
  unfold uintB
  intro x hx
  split at hx <;> simp at hx <;> omega
theorem fourL_bytes (a : Int) (h0 : 0 ≤ a) (h1 : a < 4294967296) : ∀ x ∈ fourL a, 0 ≤ x ∧ x ≤ 255 := by
  unfold fourL
  intro x hx
  simp at hx
  omega
theorem frameF_bytes (b : List Int) (hb : ∀ x ∈ b, 0 ≤ x ∧ x ≤ 255) (hl : b.length ≤ 4096) : ∀ x ∈ frameF b, 0 ≤ x ∧ x ≤ 255 := by
  intro x hx
  unfold frameF at hx
  rcases List.mem_append.1 hx with hx | hx
  · rcases List.mem_append.1 hx with hx | hx
    · exact uintB_bytes _ hl x hx
    · exact hb x hx
  · exact fourL_bytes _ (sumOf_rng b).1 (sumOf_rng b).2 x hx
theorem or128 (n : Nat) : bits .or .u8 ((n : Int) % 256) 128 = (n : Int) % 128 + 128 := by
  have e : ((n : Int) % 256) = ((n % 256 : Nat) : Int) := by omega
  rw [e, u8_or ((n % 256 : Nat) : Int) 128 (by omega) (by omega) (by omega) (by omega), Int.toNat_natCast]
  have h2 : ∀ m : Nat, m < 256 → ((m ||| (128 : Int).toNat : Nat) : Int) = (m : Int) % 128 + 128 := by decide +kernel
  rw [h2 _ (by omega)]; omega
end Go.Proofs.YtiinelmednbpmaaGreat.Crc
/- The walk of the document's Lists. -/
namespace Go.Proofs.YtiinelmednbpmaaGreat.Crc
open Go.RowKit Go.Proofs.YtiinelmednbpmaaGreatW.PrintWords Go.Proofs.YtiinelmednbpmaaGreatW.PrintMore Go.Proofs.YtiinelmednbpmaaGreat.Cut Go.Proofs.YtiinelmednbpmaaGreat.Pack
def strs (l : List (List Int)) : List ByteArray := l.map strOfNums
def sameB (l k : List (List Int)) : Bool := decide (strs l = strs k)
theorem at_row {w : World} {A : Option Addr} {n : Nat} {l : List (List Int)} (h : KB.C w A n l) (i : Nat) (hi : i < n) : ∃ ad x Ai ci, A = some ad ∧ l[i]? = some x ∧ w.cell? (ad.add i) = some (.slice Ai x.length ci) ∧ (Kd.int .u8).C w Ai x.length x := by
  obtain ⟨hl, _, h⟩ := h
  obtain ⟨ad, hA, hc⟩ := h (by omega)
  have hil : i < l.length := by omega
  obtain ⟨cs, _, hk, hat⟩ := hc i (l[i]) (List.getElem?_eq_getElem hil)
  obtain ⟨Ai, ci, rfl, _, hC⟩ := hk
  refine ⟨ad, l[i], Ai, ci, hA, List.getElem?_eq_getElem hil, ?_, hC⟩
  have := hat 0 _ rfl
  have e1 : KB.sz = 1 := rfl
  rwa [e1, Nat.mul_one, Nat.add_zero] at this
theorem conv_drew {w : World} {A : Option Addr} {n c : Nat} {xs : List Int} (h : (Kd.int .u8).C w A n xs) (S : ByteArray) (hS : strOfNums xs = S) : ∀ m, (convert 32 9 (.slice A n c)).run Tryz.prog (w.drewN m) = .ok (.string S) (w.drewN m) := fun m => by
  have hl := h.1
  subst hl
  rw [← hS]
  exact Kd.C_string Tryz.underlying32 Tryz.underlying5 Tryz.underlying9 (Kd.C_below h (Drawn0.step (Drawn0.refl w) m).below)
theorem strs_len {l k : List (List Int)} (h : l.length ≠ k.length) : sameB l k = false := by
  unfold sameB strs
  exact decide_eq_false fun e => h (by have := congrArg List.length e; simpa using this)
theorem strs_snoc {l k : List (List Int)} {p : Nat} {x y : List Int} (hx : l[p]? = some x) (hy : k[p]? = some y) (h : strs (l.take p) = strs (k.take p)) (he : strOfNums x = strOfNums y) : strs (l.take (p + 1)) = strs (k.take (p + 1)) := by
  obtain ⟨hl, rfl⟩ := List.getElem?_eq_some_iff.1 hx
  obtain ⟨hk, rfl⟩ := List.getElem?_eq_some_iff.1 hy
  unfold strs at h ⊢
  rw [List.take_succ_eq_append_getElem hl, List.take_succ_eq_append_getElem hk, List.map_append, List.map_append, h, List.map_cons, List.map_cons, he]
theorem strs_ne {l k : List (List Int)} {p : Nat} {x y : List Int} (hx : l[p]? = some x) (hy : k[p]? = some y) (he : strOfNums x ≠ strOfNums y) : sameB l k = false := by
  unfold sameB strs
  refine decide_eq_false fun e => he ?_
  have := congrArg (fun z => z[p]?) e
  simpa [hx, hy] using this
theorem str_ne {S T : ByteArray} (h : S ≠ T) : (S == T) = false := by
  rw [beq_toListBytes]
  refine beq_eq_false_iff_ne.2 fun e => h ?_
  rw [ByteArray.toList_eq, ByteArray.toList_eq] at e
  obtain ⟨⟨x⟩⟩ := S
  obtain ⟨⟨y⟩⟩ := T
  simpa using e
set_option maxRecDepth 1000000 in
set_option maxHeartbeats 1600000 in
theorem lists_calls (A0 : Option Addr) (c0 : Nat) (l0 : List (List Int)) (A1 : Option Addr) (c1 : Nat) (l1 : List (List Int)) (w : World) (h0 : KB.C w A0 l0.length l0) (h1 : KB.C w A1 l1.length l1) :
    Calls Tryz.prog 13 #[.slice A0 l0.length c0, .slice A1 l1.length c1] w fun e w' => e = .returned (.bool (sameB l0 l1)) ∧ Drawn0 w w' := by
  have b0 : l0.length ≤ 9223372036854775807 := h0.2.1
  have H0 := Lib.hid h0; have H1 := Lib.hid h1
  clear h0 h1
  by_cases hlen : l0.length = l1.length
  · have t1 : (l0.length != l1.length) = false := by simpa using hlen
    obtain ⟨n, hn⟩ : ∃ n, n = l0.length := ⟨_, rfl⟩
    rw [← hlen] at H1 ⊢
    rw [← hn] at H0 H1 b0 ⊢
    have HL := Lib.hid (And.intro hn (hn.trans hlen))
    clear hlen hn t1
    go_enter Tryz.func13, Tryz.ntmps13
    go_wp2
    go_loopw [5] (fun i wr => ∃ k : Nat, k ≤ n ∧ i = .int .i64 k ∧ Drawn0 w wr ∧ strs (l0.take k) = strs (l1.take k)) (fun i _ => n - (intOf i).toNat)
    case atStart => exact ⟨0, Nat.zero_le _, rfl, Drawn0.refl w, by simp [strs]⟩
    case round =>
      obtain ⟨k, hk, rfl, hd, hs⟩ := hrel
      have HD := Lib.hid hd; have HS := Lib.hid hs
      clear hd hs
      by_cases hlt : k < n
      · have hlti : (k : Int) < (n : Int) := by omega
        have hk0 : (0 : Int) ≤ (k : Int) := by omega
        obtain ⟨ad0, x0, B0, e0, hA0, hx0, hc0, hC0⟩ := at_row (w := wr) (by have := H0.out; exact Kd.C_below this HD.out.below) k hlt
        obtain ⟨ad1, x1, B1, e1, hA1, hx1, hc1, hC1⟩ := at_row (w := wr) (by have := H1.out; exact Kd.C_below this HD.out.below) k hlt
        subst hA0; subst hA1
        obtain ⟨S0, hS0⟩ : ∃ S, strOfNums x0 = S := ⟨_, rfl⟩
        obtain ⟨S1, hS1⟩ : ∃ S, strOfNums x1 = S := ⟨_, rfl⟩
        have cv0 := conv_drew (c := e0) hC0 S0 hS0
        have cv1 := conv_drew (c := e1) hC1 S1 hS1
        have HX := Lib.hid (And.intro (And.intro hx0 hx1) (And.intro hS0 hS1))
        clear hx0 hx1 hS0 hS1 hC0 hC1
        by_cases hss : S0 = S1
        · subst hss
          go_wp2
          go_cut [27] (fun t wx => t = .bool false ∧ Drawn0 w wx)
          case first =>
            go_quiet (fail)
            go_wp2
            go_meet
            case rel => exact ⟨rfl, HD.out.step _⟩
          case rest =>
            obtain ⟨rfl, hd⟩ := hcut
            have HD2 := Lib.hid hd
            have HS2 := Lib.hid (strs_snoc HX.out.1.1 HX.out.1.2 HS.out (HX.out.2.1.trans HX.out.2.2.symm))
            clear hd
            go_wp2
            go_roundw
            case rel => exact ⟨k + 1, by omega, by go_num, HD2.out, HS2.out⟩
            case measure => simp [intOf]; omega
        · have hb : (S0.toList == S1.toList) = false := by rw [← beq_toListBytes]; exact str_ne hss
          have HR := Lib.hid (strs_ne HX.out.1.1 HX.out.1.2 (by rw [HX.out.2.1, HX.out.2.2]; exact hss))
          clear hss
          go_wp2
          go_cut [27] (fun t wx => t = .bool true ∧ Drawn0 w wx)
          case first =>
            go_quiet (fail)
            go_wp2
            go_meet
            case rel => exact ⟨rfl, HD.out.step _⟩
          case rest =>
            obtain ⟨rfl, hd⟩ := hcut
            have HD2 := Lib.hid hd
            clear hd
            go_wp2
            go_ret
            exact ⟨by rw [HR.out]; rfl, HD2.out⟩
      · obtain rfl : k = n := by omega
        have hfin : sameB l0 l1 = true := by
          have := HS.out
          rw [List.take_of_length_le (by rw [← HL.out.1]; exact Nat.le_refl _), List.take_of_length_le (by rw [← HL.out.2]; exact Nat.le_refl _)] at this
          exact decide_eq_true this
        have HF := Lib.hid hfin
        clear hfin
        go_wp2
        go_ret
        exact ⟨by rw [HF.out]; rfl, HD.out⟩
  · have t1 : ((l0.length : Int) != (l1.length : Int)) = true := bne_iff_ne.2 (by omega)
    have t2 : (l0.length != l1.length) = true := bne_iff_ne.2 hlen
    have t3 : (l0.length == l1.length) = false := beq_eq_false_iff_ne.2 hlen
    have HR := Lib.hid (strs_len hlen)
    clear hlen
    go_enter Tryz.func13, Tryz.ntmps13
    go_wp2
    go_ret
    exact ⟨by rw [HR.out]; rfl, Drawn0.refl w⟩
end Go.Proofs.YtiinelmednbpmaaGreat.Crc
/- A disk in memory, and the walks of its methods. -/
namespace Go.Proofs.YtiinelmednbpmaaGreat.DiskM
open Go.RowKit Go.Proofs.YtiinelmednbpmaaGreatW.PrintWords Go.Proofs.YtiinelmednbpmaaGreatW.PrintLast Go.Proofs.YtiinelmednbpmaaGreatW.PrintMore Go.Proofs.YtiinelmednbpmaaGreat.Row Go.Proofs.YtiinelmednbpmaaGreat.Cut
theorem info5 : (Tryz.prog.info? 5).map (fun i => (i.zero, i.size, i.bytes)) = some (some (.int .u8 0), 1, 1) := by kernel_rfl

/-- The disk at g: its bytes are the slice v. -/
structure Dk (w0 w : World) (g : Nat) (v : Value) (room : Int) (bs : List Int) (safe : Nat) : Prop where
  below : Below w0.heap.size w0 w
  kg : w0.heap.size ≤ g
  blk : w.heap[g]? = some (.cells #[.int .i64 room, v, .int .i64 safe] 103 (0, 0))
  row : Row w w0.heap.size 5 v (nums .u8 bs)
  room1 : room ≤ 1048576
  fit : (bs.length : Int) ≤ room
  sf : safe ≤ bs.length
  byte : ∀ x ∈ bs, 0 ≤ x ∧ x ≤ 255
/-- What a method leaves: all but the disk's own blocks. -/
def Fr (w w' : World) (g : Nat) (v v' : Value) : Prop :=
  w.heap.size ≤ w'.heap.size ∧ (∀ k, k < w.heap.size → k ≠ g → some k ≠ v.ownBlock → w'.heap[k]? = w.heap[k]?) ∧ (v'.ownBlock = none ∨ v'.ownBlock = v.ownBlock ∨ ∃ b, v'.ownBlock = some b ∧ w.heap.size ≤ b)
theorem Fr.refl (w : World) (g : Nat) (v : Value) : Fr w w g v v := ⟨Nat.le_refl _, fun _ _ _ _ => rfl, .inr (.inl rfl)⟩
theorem Fr.trans {w1 w2 w3 : World} {g : Nat} {v1 v2 v3 : Value} (h : Fr w1 w2 g v1 v2) (h' : Fr w2 w3 g v2 v3) : Fr w1 w3 g v1 v3 := by
  obtain ⟨a1, a2, a3⟩ := h
  obtain ⟨b1, b2, b3⟩ := h'
  refine ⟨Nat.le_trans a1 b1, fun k hk hg hv => ?_, ?_⟩
  · have hv2 : some k ≠ v2.ownBlock := by
      intro e
      rcases a3 with h | h | ⟨b, h, hb⟩
      · rw [h] at e; cases e
      · exact hv (e.trans h)
      · rw [h] at e; injection e with e; omega
    exact (b2 k (by omega) hg hv2).trans (a2 k hk hg hv)
  · rcases b3 with h | h | ⟨b, h, hb⟩
    · exact .inl h
    · rcases a3 with h' | h' | ⟨b, h', hb⟩
      · exact .inl (h.trans h')
      · exact .inr (.inl (h.trans h'))
      · exact .inr (.inr ⟨b, h.trans h', hb⟩)
    · exact .inr (.inr ⟨b, h, by omega⟩)
theorem Fr.step {w1 w2 w3 : World} {g : Nat} {v1 v2 : Value} (h : Fr w1 w2 g v1 v2) (hb : Below w2.heap.size w2 w3) : Fr w1 w3 g v1 v2 :=
  ⟨Nat.le_trans h.1 hb.size, fun k hk hg hv => (hb.block k (by have := h.1; omega)).trans (h.2.1 k hk hg hv), h.2.2⟩
theorem Fr.after {w1 w2 w3 : World} {g : Nat} {v1 v2 : Value} (hb : Below w1.heap.size w1 w2) (h : Fr w2 w3 g v1 v2) : Fr w1 w3 g v1 v2 := by
  refine ⟨Nat.le_trans hb.size h.1, fun k hk hg hv => (h.2.1 k (by have := hb.size; omega) hg hv).trans (hb.block k hk), ?_⟩
  rcases h.2.2 with h | h | ⟨b, h, hbb⟩
  · exact .inl h
  · exact .inr (.inl h)
  · exact .inr (.inr ⟨b, h, by have := hb.size; omega⟩)

section
variable {w0 w w' : World} {g : Nat} {v : Value} {room : Int} {bs : List Int} {safe : Nat}
theorem Dk.step (D : Dk w0 w g v room bs safe) (hb : Below w.heap.size w w') : Dk w0 w' g v room bs safe :=
  ⟨below_step D.below hb, D.kg, (hb.block _ (Array.getElem?_eq_some_iff.1 D.blk).1).trans D.blk, D.row.below hb, D.room1, D.fit, D.sf, D.byte⟩
theorem Dk.c0 (D : Dk w0 w g v room bs safe) : w.cell? ⟨g, 0, none⟩ = some (.int .i64 room) := blk_cell D.blk 0
theorem Dk.c1 (D : Dk w0 w g v room bs safe) : w.cell? ⟨g, 1, none⟩ = some v := blk_cell D.blk 1
theorem Dk.c2 (D : Dk w0 w g v room bs safe) : w.cell? ⟨g, 2, none⟩ = some (.int .i64 safe) := blk_cell D.blk 2
theorem Dk.fz (D : Dk w0 w g v room bs safe) (i : Nat) : w.frozen? ⟨g, i, none⟩ = false := blk_frozen D.blk i
theorem Dk.slice (D : Dk w0 w g v room bs safe) : ∃ A c, v = .slice A bs.length c ∧ bs.length ≤ c ∧ c ≤ 9223372036854775807 := by
  have := D.row.slice; rwa [nums_length] at this
theorem Dk.ne (D : Dk w0 w g v room bs safe) (k : Nat) (hk : v.ownBlock = some k) : k ≠ g := by
  obtain ⟨_, _, cur, h⟩ := D.row.lt k hk
  exact blk_ne h D.blk (by decide)
/-- The disk's slice is turned into another one of the call's own. -/
theorem Dk.put {w1 : World} {v1 : Value} {bs1 : List Int} (D : Dk w0 w g v room bs safe) (hg : w.grownBy w1 v.ownBlock) (hr : Row w1 w0.heap.size 5 v1 (nums .u8 bs1)) (hfit : (bs1.length : Int) ≤ room) (hsf : safe ≤ bs1.length) (hby : ∀ x ∈ bs1, 0 ≤ x ∧ x ≤ 255) (hne : ∀ k, v1.ownBlock = some k → k ≠ g)
    (hat : v1.ownBlock = none ∨ v1.ownBlock = v.ownBlock ∨ ∃ b, v1.ownBlock = some b ∧ w.heap.size ≤ b) : Dk w0 (w1.setCell ⟨g, 1, none⟩ v1) g v1 room bs1 safe ∧ Fr w (w1.setCell ⟨g, 1, none⟩ v1) g v v1 := by
  have hbl : Below w0.heap.size w0 w1 := D.below.grown hg D.below.size (fun k hk => (D.row.lt k hk).1)
  have hb1 : w1.heap[g]? = some (.cells #[.int .i64 room, v, .int .i64 safe] 103 (0, 0)) := (hg.block g (Array.getElem?_eq_some_iff.1 D.blk).1 (fun e => (D.ne g e.symm) rfl)).trans D.blk
  refine ⟨⟨below_set hbl D.kg, D.kg, heap_setCell_same w1 g 1 _ 103 v1 hb1, hr.move fun k hk => set_other _ (hne k hk), D.room1, hfit, hsf, hby⟩, ?_, fun k hk hkg hkv => ?_, hat⟩
  · have := hg.size; simpa using this
  · exact (set_other _ hkg).trans (hg.block k hk hkv)
end

set_option maxHeartbeats 1000000 in
theorem append_ok {w0 w : World} {g : Nat} {v : Value} {room : Int} {bs : List Int} {safe : Nat} (D : Dk w0 w g v room bs safe) (A : Option Addr) (c : Nat) (l : List Int) (hK : (Kd.int .u8).C w A l.length l) (hby : ∀ x ∈ l, 0 ≤ x ∧ x ≤ 255) (hfit : (l.length : Int) ≤ room - bs.length) :
    Calls Tryz.prog 165 #[.pointer (some ⟨g, 0, none⟩), .slice A l.length c] w fun e w' => e = .returned (.int .i64 0) ∧ ∃ v', Dk w0 w' g v' room (bs ++ l) safe ∧ Fr w w' g v v' := by
  obtain ⟨A', c', hv, hc, hcm⟩ := D.slice
  have c0 := D.c0; have c1 := D.c1
  rw [hv] at c1
  have f1 := D.fz 1
  have hr1 := D.room1
  have hbl := D.fit
  have HD := Lib.hid D; have HK := Lib.hid hK; have HV := Lib.hid hv
  have hll : l.length ≤ 1048576 := by omega
  clear D hK hv
  go_enter Tryz.func165, Tryz.ntmps165
  go_upto_region 1 with fail
  go_cut [21] (fun t wx => t = .bool false ∧ Drawn0 w wx)
  case first =>
    go_quiet (fail)
    go_wp2
    go_meet
    case rel => exact ⟨by rw [decide_eq_false (by omega)], (Drawn0.refl w).step _⟩
  case rest =>
    obtain ⟨rfl, hd⟩ := hcut
    have D1 := HD.out.step hd.below
    have hnews : 0 < (nums .u8 l).length → ∃ a, A = some a ∧ ∀ j u, (nums .u8 l)[j]? = some u → wc.cell? (a.add j) = some u := fun h0 => by
      rw [nums_length] at h0
      obtain ⟨_, _, h⟩ := Kd.C_below HK.out hd.below
      obtain ⟨a, ha, hc⟩ := h h0
      refine ⟨a, ha, fun j u hu => ?_⟩
      simp only [nums, List.getElem?_map, Option.map_eq_some_iff] at hu
      obtain ⟨p, hp, rfl⟩ := hu
      obtain ⟨cs, _, hcs, hat⟩ := hc j p hp
      obtain rfl : cs = [.int .u8 p] := hcs
      have := hat 0 _ rfl
      have e1 : (Kd.int .u8).sz = 1 := rfl
      rwa [e1, Nat.mul_one, Nat.add_zero] at this
    obtain ⟨i5, hi5, hz5, hs5, hb5⟩ := info_parts info5
    obtain ⟨v', w', hr, hrow, hgr, hat⟩ := run_append (P := Tryz.prog) wc w0.heap.size 32 32 5 i5 (.int .u8 0) 1 Tryz.underlying32 hi5 hz5 hs5 hb5 rfl v (nums .u8 bs) D1.row A c (nums .u8 l) hnews (fun u hu => by
      simp only [nums, List.mem_map] at hu
      obtain ⟨x, _, rfl⟩ := hu; rfl) (by rw [nums_length, nums_length]; omega) (by rw [nums_length, nums_length]; omega) D1.below.size
    have hput := D1.put (bs1 := bs ++ l) hgr (by rw [nums_append]; exact hrow) (by rw [List.length_append]; omega) (by rw [List.length_append]; have := D1.sf; omega) (fun x hx => by
      rcases List.mem_append.1 hx with hx | hx
      · exact D1.byte x hx
      · exact hby x hx) (fun k hk => by
      rcases hat with h | ⟨b, h, hb⟩
      · exact D1.ne k (h.symm.trans hk)
      · rw [h] at hk; injection hk with hk; have := (Array.getElem?_eq_some_iff.1 D1.blk).1; omega) (.inr hat)
    have hb1 : w'.heap[g]? = some (.cells #[.int .i64 room, v, .int .i64 safe] 103 (0, 0)) := (hgr.block g (Array.getElem?_eq_some_iff.1 D1.blk).1 (fun e => (D1.ne g e.symm) rfl)).trans D1.blk
    have d1 : w'.cell? ⟨g, 1, none⟩ = some v := blk_cell hb1 1
    have e1 : w'.frozen? ⟨g, 1, none⟩ = false := blk_frozen hb1 1
    have k1 := D1.c1
    rw [HV.out] at hr k1
    rw [nums_length] at hr
    obtain ⟨A2, k2, rfl, _, _⟩ := hput.1.slice
    rw [List.length_append] at hput hr
    have HR := Lib.hid hr; have HP := Lib.hid hput
    clear hr hput hb1 hnews hrow hgr hat hz5 hs5 hb5 hi5 D1 c1
    go_wp2_with (at_builtin; refine wpList_append_run rfl _ _ 32 rfl _ _ _ rfl rfl HR.out ?_)
    go_ret
    exact ⟨rfl, _, HP.out.1, Fr.after hd.below HP.out.2⟩

set_option maxHeartbeats 1000000 in
theorem append_full {w0 w : World} {g : Nat} {v : Value} {room : Int} {bs : List Int} {safe : Nat} (D : Dk w0 w g v room bs safe) (A : Option Addr) (c n : Nat) (hn : n ≤ 9223372036854775807) (hfit : room - bs.length < (n : Int)) :
    Calls Tryz.prog 165 #[.pointer (some ⟨g, 0, none⟩), .slice A n c] w fun e w' => e = .returned (.int .i64 3) ∧ Drawn0 w w' := by
  obtain ⟨A', c', hv, hc, hcm⟩ := D.slice
  have c0 := D.c0; have c1 := D.c1
  rw [hv] at c1
  have hr1 := D.room1
  have hbl := D.fit
  clear D hv
  go_enter Tryz.func165, Tryz.ntmps165
  go_upto_region 1 with fail
  go_cut [21] (fun t wx => t = .bool true ∧ Drawn0 w wx)
  case first =>
    go_quiet (fail)
    go_wp2
    go_meet
    case rel => exact ⟨rfl, (Drawn0.refl w).step _⟩
  case rest =>
    obtain ⟨rfl, hd⟩ := hcut
    go_wp2
    go_ret
    exact ⟨rfl, hd⟩
set_option maxHeartbeats 1000000 in
theorem append_nil (w : World) (A : Option Addr) (c n : Nat) : Calls Tryz.prog 165 #[.pointer none, .slice A n c] w fun e w' => e = .returned (.int .i64 3) ∧ Drawn0 w w' := by
  go_enter Tryz.func165, Tryz.ntmps165
  go_upto_region 1 with fail
  go_cut [21] (fun t wx => t = .bool true ∧ Drawn0 w wx)
  case first =>
    go_quiet (fail)
    go_wp2
    go_meet
    case rel => exact ⟨rfl, (Drawn0.refl w).step _⟩
  case rest =>
    obtain ⟨rfl, hd⟩ := hcut
    go_wp2
    go_ret
    exact ⟨rfl, hd⟩

theorem Dk.sync {w0 w : World} {g : Nat} {v : Value} {room : Int} {bs : List Int} {safe : Nat} (D : Dk w0 w g v room bs safe) (m : Nat) (hm : m ≤ bs.length) : Dk w0 (w.setCell ⟨g, 2, none⟩ (.int .i64 m)) g v room bs m ∧ Fr w (w.setCell ⟨g, 2, none⟩ (.int .i64 m)) g v v := by
  refine ⟨⟨below_set D.below D.kg, D.kg, heap_setCell_same w g 2 _ 103 _ D.blk, D.row.move fun k hk => set_other _ (D.ne k hk), D.room1, D.fit, hm, D.byte⟩, by simp, fun k _ hkg _ => set_other _ hkg, .inr (.inl rfl)⟩
set_option maxHeartbeats 1000000 in
theorem sync_calls {w0 w : World} {g : Nat} {v : Value} {room : Int} {bs : List Int} {safe : Nat} (D : Dk w0 w g v room bs safe) :
    Calls Tryz.prog 68 #[.pointer (some ⟨g, 0, none⟩)] w fun e w' => e = .returned (.tuple #[]) ∧ Dk w0 w' g v room bs bs.length ∧ Fr w w' g v v := by
  obtain ⟨A', c', hv, hc, hcm⟩ := D.slice
  have c1 := D.c1; have c2 := D.c2; have f2 := D.fz 2
  rw [hv] at c1
  have HS := Lib.hid (D.sync bs.length (Nat.le_refl _))
  clear D hv
  go_enter Tryz.func68, Tryz.ntmps68
  go_wp2
  go_end0
  exact ⟨rfl, HS.out⟩
theorem sync_nil (w : World) : Calls Tryz.prog 68 #[.pointer none] w fun e w' => e = .returned (.tuple #[]) ∧ w = w' := by
  go_enter Tryz.func68, Tryz.ntmps68
  go_wp2
  go_end0
  exact ⟨rfl, rfl⟩
theorem bytes_nil (w : World) : Calls Tryz.prog 166 #[.pointer none] w fun e w' => e = .returned (.slice none 0 0) ∧ w = w' := by
  go_enter Tryz.func166, Tryz.ntmps166
  go_wp2
  go_ret
  exact ⟨rfl, rfl⟩

theorem Dk.new {w0 w : World} (room : Int) (hb : Below w0.heap.size w0 w) (h0 : 0 ≤ room) (h1 : room ≤ 1048576) :
    Dk w0 (w.alloc (.cells #[.int .i64 room, .slice none 0 0, .int .i64 0] 103)) w.heap.size (.slice none 0 0) room [] 0 :=
  ⟨hb.alloc hb.size _, hb.size, heap_alloc_new w _, Row.nil _ _ _, h1, by simpa using h0, Nat.le_refl _, fun x hx => by simp at hx⟩
set_option maxHeartbeats 1000000 in
theorem new_ok {w0 w : World} (room : Int) (hb : Below w0.heap.size w0 w) (h0 : 0 ≤ room) (h1 : room ≤ 1048576) :
    Calls Tryz.prog 26 #[.int .i64 room] w fun e w' => e = .returned (.tuple #[.pointer (some ⟨w.heap.size, 0, none⟩), .int .i64 0]) ∧ Dk w0 w' w.heap.size (.slice none 0 0) room [] 0 ∧ Below w.heap.size w w' := by
  have HN := Lib.hid (Dk.new room hb h0 h1)
  go_enter Tryz.func26, Tryz.ntmps26
  go_wp2
  go_ret2
  exact ⟨rfl, HN.out, (Below.refl _ _).alloc (Nat.le_refl _) _⟩
set_option maxHeartbeats 1000000 in
theorem new_bad (w : World) (room : Int) (h : room < 0 ∨ 1048576 < room) :
    Calls Tryz.prog 26 #[.int .i64 room] w fun e w' => e = .returned (.tuple #[.pointer none, .int .i64 1]) ∧ w = w' := by
  rcases h with h | h
  · go_enter Tryz.func26, Tryz.ntmps26
    go_wp2
    go_ret2
    exact ⟨rfl, rfl⟩
  · have h' : ¬ room < 0 := by omega
    go_enter Tryz.func26, Tryz.ntmps26
    go_wp2
    go_ret2
    exact ⟨rfl, rfl⟩

theorem zero5 (w : World) : (zeroValue 5).run Tryz.prog w = .ok (.int .u8 0) w := by kernel_rfl
/-- 'clear(x[m:]); x = x[:m:m]': what each operation comes to. -/
theorem cut_all (ty : TypeId) (w : World) {base : Nat} {v : Value} {xs : List Value} (h : Row w base 5 v xs) (m : Nat) (hm : m ≤ xs.length) :
    ∃ A2 n2 c2 A' w', (∀ W : World, (Instr.slice 32 v (some (.int .i64 m)) none none).run Tryz.prog W = .ok (.slice A2 n2 c2) W) ∧ ((Builtin.clear_ #[32] ty #[.slice A2 n2 c2]).run Tryz.prog w = .ok (.tuple #[]) w') ∧
      (∀ W : World, (Instr.slice 32 v none (some (.int .i64 m)) (some (.int .i64 m))).run Tryz.prog W = .ok (.slice A' m m) W) ∧ Row w' base 5 (.slice A' m m) (xs.take m) ∧ (Value.slice A' m m).ownBlock = v.ownBlock ∧ w.grownBy w' v.ownBlock := by
  obtain ⟨i5, hi5, hz5, hs5, hb5⟩ := info_parts info5
  obtain ⟨A, c, hv, hc, hcm⟩ := h.slice
  subst hv
  obtain ⟨v', h3, hr3, ho3⟩ := run_cut3 (P := Tryz.prog) w 32 5 Tryz.underlying32 hi5 h m hm .i64 .i64
  have hfrom := cut_from (P := Tryz.prog) 32 5 .i64 Tryz.underlying32 hi5 1 hs5 A xs.length c (m : Int) (by omega) (by omega)
  simp only [Int.toNat_natCast, Nat.mul_one] at hfrom
  have hl : (xs.take m).length = m := by rw [List.length_take]; omega
  have hv' : ∃ A', v' = .slice A' m m := by
    have ha : (A.map fun x => x.add 0) = A := by cases A <;> simp [Addr.add]
    have h1 : (m : Int) ≤ (c : Int) := by omega
    have h4 := h3 w
    simp [Instr.slice, run_underlying Tryz.underlying32, Instr.sliceBounds, run_sliceBound, h1, sizeOf, typeInfo, hi5, Result.andThen] at h4
    exact ⟨_, h4.symm⟩
  obtain ⟨A', rfl⟩ := hv'
  by_cases hz : xs.length - m = 0
  · rw [hz] at hfrom
    refine ⟨_, _, _, A', w, hfrom, ?_, h3, hr3, ho3, World.grownBy.refl w _⟩
    simp [Builtin.clear_, run_underlying Tryz.underlying32]
    split <;> simp_all
  · rcases h with ⟨_, rfl⟩ | ⟨g, c', cur, hv, hb, hh, h1, h2, h3', h4⟩
    · simp at hz
    · injection hv with hA hn hcc
      subst hA; subst hcc
      have hcm' : c ≠ m := by omega
      rw [if_neg hcm'] at hfrom
      have e1 : (Option.map (fun x : Addr => x.add m) (some ⟨g, 0, none⟩)) = some ⟨g, m, none⟩ := by simp [add_plain]
      rw [e1] at hfrom
      have hclr := Lib.run_clear_slice (P := Tryz.prog) w 32 5 ty (.int .u8 0) Tryz.underlying32 zero5 rfl rfl g m (xs.length - m) (c - m) (by omega)
        (fun j hj => by rw [blk_cell hh, Array.getElem?_eq_getElem (by omega)]; rfl) (fun j _ => blk_frozen hh _)
      obtain ⟨cur', hh', hsz, hcl⟩ := setCells_row (List.replicate (xs.length - m) (.int .u8 0)) m w cur hh (by rw [List.length_replicate]; omega)
      obtain ⟨ho, ht, hou, hs⟩ := setCells_same g (List.replicate (xs.length - m) (.int .u8 0)) m w
      refine ⟨_, _, _, A', _, hfrom, hclr, h3, ?_, ho3, ⟨ho, ht, hou, Nat.le_of_eq hs.symm, fun k _ hk => setCells_far _ _ k (fun e => hk (by rw [e]; rfl))⟩⟩
      rcases hr3 with ⟨hq, hq2⟩ | ⟨g2, c2, cur2, hq, hb2, hh2, k1, k2, k3, k4⟩
      · injection hq with hq1 hq2' _
        subst hq1
        simp [Value.ownBlock] at ho3
      · injection hq with hq1 hq2 hq3
        subst hq1
        obtain rfl : g2 = g := by simpa [Value.ownBlock] using ho3
        refine .inr ⟨g2, m, cur', by rw [hl], hb, hh', by omega, by omega, by omega, ?_⟩
        rw [hl, hcl, List.append_assoc, List.take_append_of_le_length (by simp; omega), List.take_take, Nat.min_self, ← h4, List.take_take, Nat.min_eq_left hm]

section
variable {w0 w w1 : World} {g : Nat} {v v1 : Value} {room : Int} {bs bs1 : List Int} {safe m : Nat}
theorem Dk.blk_grown (D : Dk w0 w g v room bs safe) (hg : w.grownBy w1 v.ownBlock) : w1.heap[g]? = some (.cells #[.int .i64 room, v, .int .i64 safe] 103 (0, 0)) :=
  (hg.block g (Array.getElem?_eq_some_iff.1 D.blk).1 (fun e => (D.ne g e.symm) rfl)).trans D.blk
theorem Dk.put2 (D : Dk w0 w g v room bs safe) (hg : w.grownBy w1 v.ownBlock) (hr : Row w1 w0.heap.size 5 v1 (nums .u8 bs1)) (hfit : (bs1.length : Int) ≤ room) (hsf : m ≤ bs1.length) (hby : ∀ x ∈ bs1, 0 ≤ x ∧ x ≤ 255) (hne : ∀ k, v1.ownBlock = some k → k ≠ g)
    (hat : v1.ownBlock = none ∨ v1.ownBlock = v.ownBlock ∨ ∃ b, v1.ownBlock = some b ∧ w.heap.size ≤ b) :
    Dk w0 ((w1.setCell ⟨g, 1, none⟩ v1).setCell ⟨g, 2, none⟩ (.int .i64 m)) g v1 room bs1 m ∧ Fr w ((w1.setCell ⟨g, 1, none⟩ v1).setCell ⟨g, 2, none⟩ (.int .i64 m)) g v v1 := by
  have hbl : Below w0.heap.size w0 w1 := D.below.grown hg D.below.size (fun k hk => (D.row.lt k hk).1)
  have hb2 := heap_setCell_same w1 g 1 _ 103 v1 (D.blk_grown hg)
  refine ⟨⟨below_set (below_set hbl D.kg) D.kg, D.kg, heap_setCell_same _ g 2 _ 103 (.int .i64 m) hb2, (hr.move fun k hk => set_other _ (hne k hk)).move fun k hk => set_other _ (hne k hk), D.room1, hfit, hsf, hby⟩, ?_, fun k hk hkg hkv => ?_, hat⟩
  · have := hg.size; simpa using this
  · exact (set_other _ hkg).trans ((set_other _ hkg).trans (hg.block k hk hkv))
end
set_option maxRecDepth 100000 in
set_option maxHeartbeats 2000000 in
theorem cut_ok {w0 w : World} {g : Nat} {v : Value} {room : Int} {bs : List Int} {safe : Nat} (D : Dk w0 w g v room bs safe) (n : Nat) (hn : n ≤ bs.length) :
    Calls Tryz.prog 67 #[.pointer (some ⟨g, 0, none⟩), .int .i64 n] w fun e w' => e = .returned (.int .i64 0) ∧ ∃ v', Dk w0 w' g v' room (bs.take n) (min safe n) ∧ Fr w w' g v v' := by
  have hr1 := D.room1
  have hft := D.fit
  have hsf := D.sf
  obtain ⟨A2, n2, c2, A', w', h1, h2, h3, hrow, hown, hgr⟩ := cut_all 0 w D.row n (by rw [nums_length]; exact hn)
  have hl : (bs.take n).length = n := by rw [List.length_take]; omega
  have hput := D.put2 (bs1 := bs.take n) (m := min safe n) hgr (by unfold nums at hrow ⊢; rw [List.map_take]; exact hrow) (by omega) (by omega) (fun x hx => D.byte x (List.mem_of_mem_take hx)) (fun k hk => D.ne k (hown.symm.trans hk)) (.inr (.inl hown))
  have hb1 := D.blk_grown hgr
  obtain ⟨A, c, hv, hc, hcm⟩ := D.slice
  have a1 := D.c1
  have b1 : w'.cell? ⟨g, 1, none⟩ = some v := blk_cell hb1 1
  have f1 : w'.frozen? ⟨g, 1, none⟩ = false := blk_frozen hb1 1
  have hb2 := heap_setCell_same w' g 1 _ 103 (.slice A' n n) hb1
  have d2 : (w'.setCell ⟨g, 1, none⟩ (.slice A' n n)).cell? ⟨g, 2, none⟩ = some (.int .i64 safe) := blk_cell hb2 2
  have f2 : (w'.setCell ⟨g, 1, none⟩ (.slice A' n n)).frozen? ⟨g, 2, none⟩ = false := blk_frozen hb2 2
  rw [hv] at a1 b1 h1 h3
  have HP := Lib.hid hput
  clear hput hb1 hb2 hrow hown hgr hl hv D
  by_cases hm : n < safe
  · have HM : Hid (min safe n = n) := Lib.hid (by omega)
    go_enter Tryz.func67, Tryz.ntmps67
    go_wp2
    go_ret
    rw [HM.out] at HP ⊢
    exact ⟨rfl, _, HP.out⟩
  · have HM : Hid (min safe n = safe) := Lib.hid (by omega)
    go_enter Tryz.func67, Tryz.ntmps67
    go_wp2
    go_ret
    rw [HM.out] at HP ⊢
    exact ⟨rfl, _, HP.out⟩
theorem cut_bad {w0 w : World} {g : Nat} {v : Value} {room : Int} {bs : List Int} {safe : Nat} (D : Dk w0 w g v room bs safe) (n : Int) (hn : n < 0 ∨ (bs.length : Int) < n) :
    Calls Tryz.prog 67 #[.pointer (some ⟨g, 0, none⟩), .int .i64 n] w fun e w' => e = .returned (.int .i64 2) ∧ w = w' := by
  obtain ⟨A, c, hv, hc, hcm⟩ := D.slice
  have a1 := D.c1
  rw [hv] at a1
  clear D hv
  rcases hn with hn | hn
  · go_enter Tryz.func67, Tryz.ntmps67
    go_wp2
    go_ret
    exact ⟨rfl, rfl⟩
  · have hn' : ¬ n < 0 := by omega
    go_enter Tryz.func67, Tryz.ntmps67
    go_wp2
    go_ret
    exact ⟨rfl, rfl⟩
theorem cut_nil (w : World) (n : Int) : Calls Tryz.prog 67 #[.pointer none, .int .i64 n] w fun e w' => e = .returned (.int .i64 2) ∧ w = w' := by
  go_enter Tryz.func67, Tryz.ntmps67
  go_wp2
  go_ret
  exact ⟨rfl, rfl⟩
theorem made_blk (w : World) (n : Nat) : (w.alloc (.cells (madeCells #[.int .u8 0] n) 5)).heap[w.heap.size]? = some (.cells (List.replicate n (Value.int .u8 0)).toArray 5 (0, 0)) := by
  rw [heap_alloc_new]
  have : madeCells #[Value.int .u8 0] n = (List.replicate n (Value.int .u8 0)).toArray := by
    apply Array.ext'
    apply List.ext_getElem
    · simp [madeCells]
    · intro i h1 h2
      simp [madeCells, Nat.mod_one]
  rw [this]
set_option maxHeartbeats 1000000 in
theorem bytes_calls {w0 w : World} {g : Nat} {v : Value} {room : Int} {bs : List Int} {safe : Nat} (D : Dk w0 w g v room bs safe) :
    Calls Tryz.prog 166 #[.pointer (some ⟨g, 0, none⟩)] w fun e w' => ∃ gb, e = .returned (.slice (some ⟨gb, 0, none⟩) bs.length bs.length) ∧ Row w' w.heap.size 5 (.slice (some ⟨gb, 0, none⟩) bs.length bs.length) (nums .u8 bs) ∧ Below w.heap.size w w' := by
  obtain ⟨A, c, hv, hc, hcm⟩ := D.slice
  have a1 := D.c1
  have hft := D.fit; have hr1 := D.room1
  obtain ⟨n, hn⟩ : ∃ n, n = bs.length := ⟨_, rfl⟩
  have hb := (Below.refl w.heap.size w).alloc (Nat.le_refl _) (.cells (madeCells #[.int .u8 0] n) 5)
  have D1 := D.step hb
  have b1 := D1.c1
  have hblk := made_blk w n
  have hrow := D1.row
  rw [hv] at a1 b1 hrow
  rw [← hn] at a1 b1 hc hft hrow ⊢
  have hmk := print_make (P := Tryz.prog) 32 5 .u8 1 Tryz.underlying32 info5 (by decide) n (by omega)
  have HR := Lib.hid hrow
  have HBk := Lib.hid hblk; have HB := Lib.hid hb; have HN := Lib.hid hn
  clear D D1 hv hrow hblk hb hn
  go_enter Tryz.func166, Tryz.ntmps166
  have hcs : ∀ j u, (nums .u8 bs)[j]? = some u → ∃ g', A = some ⟨g', 0, none⟩ ∧ (w.alloc (.cells (madeCells #[.int .u8 0] n) 5)).cell? ⟨g', j, none⟩ = some u ∧ (w.alloc (.cells (madeCells #[.int .u8 0] n) 5)).frozen? ⟨g', j, none⟩ = false := fun j u hu => HR.out.cellAt rfl j u hu
  have hpos : 0 < (nums .u8 bs).length → some (⟨w.heap.size, 0, none⟩ : Addr) = some ⟨w.heap.size, 0, none⟩ ∧ ∃ ad, A = some ad ∧ ∀ j u, (nums .u8 bs)[j]? = some u → (w.alloc (.cells (madeCells #[.int .u8 0] n) 5)).cell? (ad.add j) = some u := fun h0 => by
    obtain ⟨g', hA, _⟩ := hcs 0 _ (List.getElem?_eq_getElem h0)
    refine ⟨rfl, _, hA, fun j u hu => ?_⟩
    obtain ⟨g2, hA2, h2, _⟩ := hcs j u hu
    rw [hA] at hA2; injection hA2 with hA2; injection hA2 with hg2; subst hg2
    rw [add_plain]; exact h2
  have HPos := Lib.hid hpos
  have hln : (nums .u8 bs).length = Nat.min n n := by rw [nums_length, HN.out]; exact (Nat.min_self _).symm
  have HLn := Lib.hid hln
  have hfit : 0 + (nums .u8 bs).length ≤ (List.replicate n (Value.int .u8 0)).length := by rw [nums_length, List.length_replicate, HN.out]; omega
  have HFit := Lib.hid hfit
  clear hcs hpos hln hfit
  go_wp2_with (refine wpList_copy_splice rfl _ _ 32 32 rfl 5 Tryz.underlying32 (by kernel_rfl) (some ⟨w.heap.size, 0, none⟩) A n n n c rfl rfl w.heap.size 0 (List.replicate n (Value.int .u8 0)) 5 HBk.out (nums .u8 bs) HLn.out HPos.out HFit.out (fun u hu => by simp only [nums, List.mem_map] at hu; obtain ⟨x, _, rfl⟩ := hu; rfl) w.heap.size w HB.out (Nat.le_refl _) ?_; intro w2 hh2 hb2)
  go_ret
  have hn := HN.out
  subst hn
  refine ⟨w.heap.size, rfl, ?_, hb2⟩
  have he : splice (List.replicate bs.length (Value.int .u8 0)) 0 (nums .u8 bs) = nums .u8 bs := by
    simp only [splice, List.take_zero, List.nil_append, nums_length, Nat.zero_add]
    rw [List.drop_eq_nil_of_le (by simp), List.append_nil]
  have hh := hh2.out
  rw [he] at hh
  refine .inr ⟨w.heap.size, bs.length, _, by rw [nums_length], Nat.le_refl _, hh, by rw [nums_length]; exact Nat.le_refl _, by simp [nums_length], by simp [nums_length]; omega, ?_⟩
  simp

end Go.Proofs.YtiinelmednbpmaaGreat.DiskM
/- Cells as values: a number, an epoch, and a slice of bytes that is known. -/
namespace Go.Proofs.YtiinelmednbpmaaGreat.Quor
open Go.RowKit Go.Proofs.YtiinelmednbpmaaGreatW.PrintWords Go.Proofs.YtiinelmednbpmaaGreat.Cut
abbrev C3 := Int × Int × List Int
abbrev KC : Kd C3 := Kd.pair (Kd.int .i64) (Kd.pair (Kd.int .i64) (Kd.slice 5 (Kd.int .u8)))
/-- A cell as it lies in memory: where its bytes are. -/
structure C4 where
  at_ : Int
  ep : Int
  by_ : List Int
  A : Option Addr
  c : Nat
instance : Inhabited C4 := ⟨⟨0, 0, [], none, 0⟩⟩
def C4.c3 (z : C4) : C3 := (z.at_, z.ep, z.by_)
def enc4 (z : C4) : List Value := [.int .i64 z.at_, .int .i64 z.ep, .slice z.A z.by_.length z.c]
theorem enc4_len (z : C4) : (enc4 z).length = 3 := rfl
theorem enc4_one (z : C4) : ∀ v ∈ enc4 z, v.oneCell' = true := by
  intro v hv
  simp [enc4] at hv
  rcases hv with rfl | rfl | rfl <;> rfl
def K4 : Kd C4 where
  sz := 3
  E := []
  K := fun _ z cs => cs = enc4 z
  M := fun _ _ _ z cs => cs = enc4 z
  K_len := fun h => by rw [h]; rfl
  K_one := fun h => by rw [h]; exact enc4_one _
  K_below := fun _ h => h
  K_of_M := fun h => h
  M_mono := fun _ h => h
  M_bound := fun h => h
  M_move := fun _ h => h
  M_lower := fun _ h => h
/-- Its bytes can be read. -/
def RdB (w : World) (z : C4) : Prop := z.by_.length ≤ z.c ∧ (Kd.int .u8).C w z.A z.by_.length z.by_
theorem RdB.below {w w1 : World} {z : C4} (h : RdB w z) (hb : Below w.heap.size w w1) : RdB w1 z := ⟨h.1, Kd.C_below h.2 hb⟩
theorem at_K4 {w : World} {A : Option Addr} {n : Nat} {l : List C4} (h : K4.C w A n l) (i : Nat) (hi : i < n) : ∃ ad z, A = some ad ∧ l[i]? = some z ∧ w.cell? (ad.add (i * 3)) = some (.int .i64 z.at_) ∧ w.cell? ⟨(ad.add (i * 3)).block, (ad.add (i * 3)).off + 1, none⟩ = some (.int .i64 z.ep) ∧ w.cell? ⟨(ad.add (i * 3)).block, (ad.add (i * 3)).off + 2, none⟩ = some (.slice z.A z.by_.length z.c) := by
  obtain ⟨hl, _, h⟩ := h
  obtain ⟨ad, hA, hc⟩ := h (by omega)
  have hil : i < l.length := by omega
  obtain ⟨cs, _, hk, hat⟩ := hc i (l[i]) (List.getElem?_eq_getElem hil)
  have e1 : K4.sz = 3 := rfl
  rw [e1] at hat
  obtain rfl : cs = enc4 l[i] := hk
  refine ⟨ad, l[i], hA, List.getElem?_eq_getElem hil, hat 0 _ rfl, ?_, ?_⟩
  · rw [← add_field _ _ 1 (by omega)]; exact hat 1 _ rfl
  · rw [← add_field _ _ 2 (by omega)]; exact hat 2 _ rfl
/-- A cell that is read, as a value. -/
theorem at_KC {w : World} {A : Option Addr} {n : Nat} {l : List C3} (h : KC.C w A n l) (i : Nat) (hi : i < n) : ∃ ad z, A = some ad ∧ l[i]? = some z.c3 ∧ RdB w z ∧ w.cell? (ad.add (i * 3)) = some (.int .i64 z.at_) ∧ w.cell? ⟨(ad.add (i * 3)).block, (ad.add (i * 3)).off + 1, none⟩ = some (.int .i64 z.ep) ∧ w.cell? ⟨(ad.add (i * 3)).block, (ad.add (i * 3)).off + 2, none⟩ = some (.slice z.A z.by_.length z.c) := by
  obtain ⟨hl, _, h⟩ := h
  obtain ⟨ad, hA, hc⟩ := h (by omega)
  have hil : i < l.length := by omega
  obtain ⟨cs, _, hk, hat⟩ := hc i (l[i]) (List.getElem?_eq_getElem hil)
  have e1 : KC.sz = 3 := rfl
  rw [e1] at hat
  obtain ⟨_, _, rfl, rfl, ⟨_, _, rfl, rfl, ⟨B, c, rfl, hle, hC⟩⟩⟩ := hk
  refine ⟨ad, ⟨l[i].1, l[i].2.1, l[i].2.2, B, c⟩, hA, List.getElem?_eq_getElem hil, ⟨hle, hC⟩, hat 0 _ rfl, ?_, ?_⟩
  · rw [← add_field _ _ 1 (by omega)]; exact hat 1 _ rfl
  · rw [← add_field _ _ 2 (by omega)]; exact hat 2 _ rfl
/-- A row of rows of cells. -/
theorem at_KR {w : World} {A : Option Addr} {n : Nat} {l : List (List C3)} (h : (Kd.slice 77 KC).C w A n l) (i : Nat) (hi : i < n) : ∃ ad x B c, A = some ad ∧ l[i]? = some x ∧ w.cell? (ad.add i) = some (.slice B x.length c) ∧ x.length ≤ c ∧ KC.C w B x.length x := by
  obtain ⟨hl, _, h⟩ := h
  obtain ⟨ad, hA, hc⟩ := h (by omega)
  have hil : i < l.length := by omega
  obtain ⟨cs, _, hk, hat⟩ := hc i (l[i]) (List.getElem?_eq_getElem hil)
  obtain ⟨B, c, rfl, hle, hC⟩ := hk
  have h0 := hat 0 _ rfl
  have e1 : (Kd.slice 77 KC).sz = 1 := rfl
  rw [e1, Nat.mul_one, Nat.add_zero] at h0
  exact ⟨ad, l[i], B, c, hA, List.getElem?_eq_getElem hil, h0, hle, hC⟩
theorem infoCell : (Tryz.prog.info? 77).map (fun i => (i.zero, i.size, i.bytes)) = some (some (.agg #[.int .i64 0, .int .i64 0, .slice none 0 0]), 3, 40) := by kernel_rfl
theorem infoB : (Tryz.prog.info? 5).map (fun i => (i.zero, i.size, i.bytes)) = some (some (.int .u8 0), 1, 1) := by kernel_rfl
end Go.Proofs.YtiinelmednbpmaaGreat.Quor
/- Clone, copied. -/
namespace Go.Proofs.YtiinelmednbpmaaGreat.Quor
open Go.RowKit Go.Proofs.YtiinelmednbpmaaGreatW.PrintWords Go.Proofs.YtiinelmednbpmaaGreat.Cut
theorem grown_of_below {w w' : World} (h : Below w.heap.size w w') : w.grownBy w' none := ⟨h.os, h.tape, h.output, h.size, fun k hk _ => h.block k hk⟩
theorem below_of_grown {w w' : World} (h : w.grownBy w' none) : Below w.heap.size w w' := ⟨h.os, h.tape, h.output, h.size, fun k hk => h.block k hk (by simp)⟩
/-- The bytes of a cell are a row of the call's own. -/
def OwnB (w : World) (base : Nat) (z : C4) : Prop := (Kd.int .u8).R 5 w base (fun _ => True) (.slice z.A z.by_.length z.c) z.by_
theorem grown_below0 {w w' : World} (h : Below w.heap.size w w') : w.grownBy w' none := grown_of_below h
theorem R_set_low {α : Type} {d : Kd α} {e base g : Nat} {w : World} {ok : Nat → Prop} {v : Value} {xs : List α} (h : d.R e w base ok v xs) (hg : g < base) (j : Nat) (u : Value) : d.R e (w.setCell ⟨g, j, none⟩ u) base ok v xs :=
  Kd.R_mono (Kd.R_move (Kd.R_bound h) (fun k hk => Below.heap_setCell w ⟨g, j, none⟩ u k (by have := hk.2.1; simp only; omega))) (fun _ hk => hk.1)
theorem blk_other {w : World} {g i : Nat} {o : Obj} (h : w.heap[g]? = some o) (hn : g ≠ i) (j : Nat) (u : Value) : (w.setCell ⟨i, j, none⟩ u).heap[g]? = some o := (Below.heap_setCell w ⟨i, j, none⟩ u g hn).trans h
theorem below_set' {B g : Nat} {w W : World} (h : Below B w W) (hg : B ≤ g) (j : Nat) (u : Value) : Below B w (W.setCell ⟨g, j, Option.none⟩ u) := h.setCell hg _
set_option maxHeartbeats 1000000 in
theorem clone_calls (A : Option Addr) (c : Nat) (l : List Int) (w : World) (hC : (Kd.int .u8).C w A l.length l) (hn : l.length ≤ 140737488355328) :
    Calls Tryz.prog 86 #[.slice A l.length c] w fun e w' => ∃ B d, e = .returned (.slice B l.length d) ∧ (Kd.int .u8).R 5 w' w.heap.size (fun _ => True) (.slice B l.length d) l ∧ Below w.heap.size w w' := by
  cases A with
  | none =>
    have h0 : l = [] := by
      rcases Nat.eq_zero_or_pos l.length with h | h
      · exact List.length_eq_zero_iff.1 h
      · obtain ⟨_, _, hc⟩ := hC
        obtain ⟨ad, h2, _⟩ := hc h
        cases h2
    subst h0
    have he := fun (w : World) (n c n' c' : Nat) => @Lib.run_eql_slice_nil Tryz.prog w 32 5 none n c n' c' Tryz.underlying32
    clear hC
    go_enter Tryz.func86, Tryz.ntmps86
    go_wp2
    go_ret
    exact ⟨none, 0, rfl, Kd.R_nil _ _ _ _ _, Below.refl _ _⟩
  | some ad =>
    have he := fun (w : World) (n c n' c' : Nat) => @Lib.run_eql_slice_nil Tryz.prog w 32 5 (some ad) n c n' c' Tryz.underlying32
    have HC := Lib.hid hC
    have hR0 : (Kd.int .u8).R 5 (w.alloc (.cells #[] 5)) w.heap.size (fun _ => True) (.slice (some ⟨w.heap.size, 0, none⟩) 0 0) [] :=
      ⟨fun _ _ => trivial, [], ⟨rfl, .inr ⟨w.heap.size, 0, #[], rfl, Nat.le_refl _, (MapKept.heap_alloc w _).1, Nat.le_refl _, Nat.zero_le _, rfl, rfl⟩⟩, ⟨rfl, fun j p h => by simp at h⟩⟩
    have HR := Lib.hid hR0
    have hb0 := (Below.refl w.heap.size w).alloc (Nat.le_refl _) (.cells #[] 5)
    have HB := Lib.hid hb0
    have hl1 : (([] : List Int).length + l.length) * 1 ≤ 140737488355328 := by simpa using hn
    clear hC hR0 hb0
    go_enter Tryz.func86, Tryz.ntmps86
    go_wp2_with (first
      | ((with_reducible refine gate_builtin (b := .append) (xs := #[.tmp 5, .tmp 6]) rfl ?_); at_builtin; refine Kd.R_append_rows (Kd.int .u8) (w0 := w) w.heap.size rfl (.tmp 5) (.tmp 6) 32 5 (.int .u8 0) 1 rfl Tryz.underlying32 infoB rfl (by decide) (by decide) (.slice (some ⟨w.heap.size, 0, none⟩) 0 0) [] l (some ad) l.length c (fun _ => True) (fun _ => False) rfl rfl HR.out (Kd.C_below HC.out HB.out) (fun x cs h => h) (fun _ hk => hk.elim) (fun _ _ => trivial) HB.out HB.out.size hl1 ?_; intro v1 w1 hR1 hb1 hg1 hat1; obtain ⟨B, d, rfl⟩ := Kd.R_slice hR1)
      | go_in)
    go_ret
    exact ⟨B, d, rfl, hR1, hb1⟩
set_option maxHeartbeats 1000000 in
theorem own_calls (z : C4) (w : World) (hB : RdB w z) (hn : z.by_.length ≤ 140737488355328) :
    Calls Tryz.prog 58 #[.agg #[.int .i64 z.at_, .int .i64 z.ep, .slice z.A z.by_.length z.c]] w fun e w' => ∃ z' : C4, e = .returned (.agg #[.int .i64 z'.at_, .int .i64 z'.ep, .slice z'.A z'.by_.length z'.c]) ∧ z'.c3 = z.c3 ∧ OwnB w' w.heap.size z' ∧ Below w.heap.size w w' := by
  obtain ⟨a, e0, l, A, c⟩ := z
  have HB := Lib.hid hB
  simp only at hn ⊢
  clear hB
  go_enter Tryz.func58, Tryz.ntmps58
  go_wp2_with fail
  have g2 : w.grownBy ((w.alloc (.cells #[.int .i64 a, .int .i64 e0, .slice A l.length c] 77)).alloc (.cells #[.int .i64 0, .int .i64 0, .slice none 0 0] 77)) none := (World.grownBy_alloc _ _ _).trans (World.grownBy_alloc _ _ _)
  have r0 : ((w.alloc (.cells #[.int .i64 a, .int .i64 e0, .slice A l.length c] 77)).alloc (.cells #[.int .i64 0, .int .i64 0, .slice none 0 0] 77)).heap[w.heap.size]? = some (.cells #[.int .i64 a, .int .i64 e0, .slice A l.length c] 77 (0, 0)) := ((MapKept.heap_alloc (w.alloc _) _).2 _ (by simp)).trans (MapKept.heap_alloc w _).1
  have r1 : ((w.alloc (.cells #[.int .i64 a, .int .i64 e0, .slice A l.length c] 77)).alloc (.cells #[.int .i64 0, .int .i64 0, .slice none 0 0] 77)).heap[w.heap.size + 1]? = some (.cells #[.int .i64 0, .int .i64 0, .slice none 0 0] 77 (0, 0)) := by
    have h := (MapKept.heap_alloc (w.alloc (.cells #[.int .i64 a, .int .i64 e0, .slice A l.length c] 77)) (.cells #[.int .i64 0, .int .i64 0, .slice none 0 0] 77)).1
    simpa using h
  generalize (w.alloc (.cells #[.int .i64 a, .int .i64 e0, .slice A l.length c] 77)).alloc (.cells #[.int .i64 0, .int .i64 0, .slice none 0 0] 77) = W at *
  refine (clone_calls A c l W (Kd.C_below HB.out.2 (below_of_grown g2)) hn).mono ?_
  rintro e w1 ⟨B, d, rfl, hR, hb⟩
  have q0 := blk_below r0 hb
  have q1 := blk_below r1 hb
  have z00 := (blk_cell q0 0).trans rfl
  have z01 := (blk_cell q0 1).trans rfl
  have z02 := (blk_cell q0 2).trans rfl
  have z10 := (blk_cell q1 0).trans rfl
  have z11 := (blk_cell q1 1).trans rfl
  have z12 := (blk_cell q1 2).trans rfl
  have y02 := blk_frozen q0 2
  have y10 := blk_frozen q1 0
  have y11 := blk_frozen q1 1
  have y12 := blk_frozen q1 2
  have s1 : w.heap.size + 2 ≤ W.heap.size := by have := (Array.getElem?_eq_some_iff.1 r1).1; omega
  have HF := Lib.hid (And.intro (And.intro q1 hR) (And.intro (And.intro g2 hb) s1))
  clear q0 q1 hR g2 hb s1 r0 r1 HB
  go_wp2
  have hs1 := HF.out.2.2
  have f0 : w.grownBy w1 none := HF.out.2.1.1.trans (grown_below0 HF.out.2.1.2)
  refine bodyPost_ret (results_cell_row rfl _ _ (w.heap.size + 1) 77 #[.int .i64 a, .int .i64 e0, .slice B l.length d] (0, 0) _ rfl ?hp Tryz.underlying77 rfl (by kernel_rfl)) rfl ?_
  case hp =>
    refine (blk_put (blk_put (blk_put (blk_other HF.out.1.1 (by omega) 2 (.slice B l.length d)) 0 _ rfl) 1 _ rfl) 2 _ rfl).trans ?_
    simp
  · refine ⟨⟨a, e0, l, B, d⟩, rfl, rfl, ?_, ?_⟩
    · exact Kd.R_lower (R_set_low (R_set_low (R_set_low (R_set_low HF.out.1.2 (by omega) _ _) (by omega) _ _) (by omega) _ _) (by omega) _ _) (by omega)
    · exact below_set' (below_set' (below_set' (below_set' (below_of_grown f0) (Nat.le_refl _) _ _) (by omega) _ _) (by omega) _ _) (by omega) _ _
theorem cell_lt {w : World} {a : Addr} {v : Value} (h : w.cell? a = some v) : a.block < w.heap.size := by
  unfold World.cell? at h
  by_cases hl : a.block < w.heap.size
  · exact hl
  · rw [Array.getElem?_eq_none (by omega)] at h
    simp at h
theorem cell_step {w W : World} {a : Addr} {v : Value} {row : Option Nat} (h : w.grownBy W row) (c : w.cell? a = some v) (hne : some a.block ≠ row) : W.cell? a = some v := (World.cell?_of_block (h.block _ (cell_lt c) hne)).trans c
theorem take_snoc'' {α : Type} {l : List α} {k : Nat} {x : α} (h : l[k]? = some x) : l.take (k + 1) = l.take k ++ [x] := by
  obtain ⟨hl, rfl⟩ := List.getElem?_eq_some_iff.1 h
  exact List.take_succ_eq_append_getElem hl
def agg4 (z : C4) : Value := .agg #[.int .i64 z.at_, .int .i64 z.ep, .slice z.A z.by_.length z.c]
def row4 (z : C4) : Obj := .cells #[.int .i64 z.at_, .int .i64 z.ep, .slice z.A z.by_.length z.c] 77
end Go.Proofs.YtiinelmednbpmaaGreat.Quor
/- A node by definition: what payloads make of its epoch and its cells. -/
namespace Go.Proofs.YtiinelmednbpmaaGreat.Slot
open Go.Proofs.YtiinelmednbpmaaGreat.Pack Go.Proofs.YtiinelmednbpmaaGreat.Crc
abbrev B3 := Int × Int × List Int
def look (m : List B3) (a : Int) : Option B3 := m.find? fun c => decide (c.1 = a)
def putC (c : B3) (m : List B3) : List B3 := c :: m.filter fun x => decide (x.1 ≠ c.1)
/-- Bytes that are read: what they are, the error, how many bytes they took. -/
def bytesR (l : List Int) : List Int × Int × Nat :=
  if (uintR l).2.1 ≠ 0 then ([], (uintR l).2.1, 0)
  else if ((l.length - (uintR l).2.2 : Nat) : Int) < (uintR l).1 then ([], 4, 0)
  else ((l.drop (uintR l).2.2).take (uintR l).1.toNat, 0, (uintR l).2.2 + (uintR l).1.toNat)
/-- What a payload's parts are: the kind, the epoch, the rest. -/
structure Hd where
  what : Int
  ep : Int
  rest : List Int
def headR (b : List Int) : Option Hd :=
  if (uintR b).2.1 ≠ 0 ∨ (uintR (b.drop (uintR b).2.2)).2.1 ≠ 0 ∨ 1048576 < (uintR (b.drop (uintR b).2.2)).1 then none
  else some ⟨(uintR b).1, (uintR (b.drop (uintR b).2.2)).1, (b.drop (uintR b).2.2).drop (uintR (b.drop (uintR b).2.2)).2.2⟩
def cellR (l : List Int) : Option (Int × List Int) :=
  if (uintR l).2.1 ≠ 0 ∨ (bytesR (l.drop (uintR l).2.2)).2.1 ≠ 0 ∨ (l.drop (uintR l).2.2).drop (bytesR (l.drop (uintR l).2.2)).2.2 ≠ [] ∨ 4096 ≤ (uintR l).1 ∨ 2048 < (bytesR (l.drop (uintR l).2.2)).1.length then none
  else some ((uintR l).1, (bytesR (l.drop (uintR l).2.2)).1)
def redoF (s : Int × List B3) (b : List Int) : Int × List B3 :=
  match headR b with
  | none => s
  | some h =>
    if h.what = 2 then (if h.rest = [] ∧ s.1 < h.ep then (h.ep, s.2) else s)
    else if h.what = 1 then
      match cellR h.rest with
      | none => s
      | some c => if h.ep < s.1 then s else match look s.2 c.1 with
        | none => (s.1, putC (c.1, h.ep, c.2) s.2)
        | some d => if d.2.1 < h.ep then (s.1, putC (c.1, h.ep, c.2) s.2) else s
    else s
theorem bytesR_spec (l : List Int) : (bytesR l).2.2 ≤ l.length ∧ ((bytesR l).2.1 = 0 ∨ (bytesR l).2.1 = 4 ∨ (bytesR l).2.1 = 5) := by
  obtain ⟨h1, h2, h3⟩ := uintR_spec l
  unfold bytesR
  split
  · exact ⟨Nat.zero_le _, h3⟩
  · split
    · exact ⟨Nat.zero_le _, .inr (.inl rfl)⟩
    · refine ⟨?_, .inl rfl⟩
      simp only
      omega
theorem look_mem {m : List B3} {a : Int} {c : B3} (h : look m a = some c) : c ∈ m ∧ c.1 = a := by
  have h1 := List.mem_of_find?_eq_some h
  have h2 := List.find?_some h
  exact ⟨h1, of_decide_eq_true h2⟩
theorem look_put (c : B3) (m : List B3) (a : Int) : look (putC c m) a = if c.1 = a then some c else look m a := by
  unfold look putC
  rw [List.find?_cons]
  by_cases h : c.1 = a
  · simp [h]
  · rw [if_neg h, decide_eq_false h]
    simp only
    rw [List.find?_filter]
    congr 1
    funext x
    by_cases hx : x.1 = a
    · have h' : ¬ a = c.1 := fun e => h e.symm
      simp [hx, h']
    · simp [hx]
/-- Each slot once. -/
def Once (m : List B3) : Prop := m.Pairwise fun x y => x.1 ≠ y.1
theorem Once.put {m : List B3} (h : Once m) (c : B3) : Once (putC c m) := by
  unfold Once putC
  refine List.pairwise_cons.2 ⟨fun x hx => ?_, h.filter _⟩
  have := (List.mem_filter.1 hx).2
  exact fun e => (of_decide_eq_true this) e.symm
theorem mem_put {c x : B3} {m : List B3} (h : x ∈ putC c m) : x = c ∨ x ∈ m := by
  unfold putC at h
  rcases List.mem_cons.1 h with h | h
  · exact .inl h
  · exact .inr (List.mem_filter.1 h).1
theorem put_len {m : List B3} (h : Once m) (c : B3) : (putC c m).length = if (look m c.1).isSome then m.length else m.length + 1 := by
  unfold putC
  rw [List.length_cons]
  induction m with
  | nil => rfl
  | cons x r ih =>
    obtain ⟨h1, h2⟩ := List.pairwise_cons.1 h
    have ih := ih h2
    unfold look at ih ⊢
    rw [List.find?_cons, List.filter_cons]
    by_cases e : x.1 = c.1
    · have hall : r.filter (fun y => decide (y.1 ≠ c.1)) = r := List.filter_eq_self.2 fun y hy => decide_eq_true fun e' => h1 y hy (e.trans e'.symm)
      rw [decide_eq_true e, if_neg (by simp [e]), hall]
      rfl
    · simp only [e, decide_false, ne_eq, not_false_eq_true, decide_true, if_true, List.length_cons]
      simp only [ne_eq] at ih
      split at ih <;> rename_i hh
      · rw [if_pos hh]; omega
      · rw [if_neg hh]; omega
theorem filter_ne_len (a : Int) : ∀ (l : List Int), l.Pairwise (· ≠ ·) → l.length ≤ (l.filter fun x => decide (x ≠ a)).length + 1
  | [], _ => by simp
  | x :: r, h => by
    obtain ⟨h1, h2⟩ := List.pairwise_cons.1 h
    have ih := filter_ne_len a r h2
    rw [List.filter_cons, List.length_cons]
    by_cases e : x = a
    · subst e
      have hall : r.filter (fun y => decide (y ≠ x)) = r := List.filter_eq_self.2 fun y hy => decide_eq_true fun e' => h1 y hy e'.symm
      rw [hall]; split <;> simp
    · rw [if_pos (decide_eq_true e), List.length_cons]; omega
theorem nodup_le : ∀ (B : Nat) (l : List Int), l.Pairwise (· ≠ ·) → (∀ x ∈ l, 0 ≤ x ∧ x < B) → l.length ≤ B
  | 0, l, _, h => by
    cases l with
    | nil => simp
    | cons x r => have := h x (by simp); omega
  | B + 1, l, hp, h => by
    have h1 := filter_ne_len (B : Int) l hp
    have h2 := nodup_le B (l.filter fun x => decide (x ≠ (B : Int))) (hp.filter _) (fun x hx => by
      obtain ⟨q1, q2⟩ := List.mem_filter.1 hx
      have := h x q1
      have := of_decide_eq_true q2
      omega)
    omega
end Go.Proofs.YtiinelmednbpmaaGreat.Slot
/- The walk of a reader's Bytes. -/
namespace Go.Proofs.YtiinelmednbpmaaGreat.Slot
open Go.RowKit Go.Proofs.YtiinelmednbpmaaGreatW.PrintWords Go.Proofs.YtiinelmednbpmaaGreatW.PrintMore Go.Proofs.YtiinelmednbpmaaGreat.Row Go.Proofs.YtiinelmednbpmaaGreat.Cut Go.Proofs.YtiinelmednbpmaaGreat.Pack
def RdP (w : World) (g : Nat) (l : List Int) (r : List Int × Int × Nat) (e : Ending) (w' : World) : Prop :=
  ∃ v, e = .returned (.tuple #[v, .int .i64 r.2.1]) ∧ Row w' w.heap.size 5 v (nums .u8 r.1) ∧ (∃ A' c', Rdr w' g A' c' (l.drop r.2.2)) ∧ w.grownBy w' (some g)
theorem grown_set (w : World) (g j : Nat) (u : Value) : w.grownBy (w.setCell ⟨g, j, none⟩ u) (some g) :=
  ⟨rfl, rfl, rfl, by simp, fun i _ hne => Below.heap_setCell w ⟨g, j, none⟩ u i (fun e => hne (by rw [e]))⟩
theorem rdr_put {w w1 : World} {g : Nat} {A A1 : Option Addr} {c c1 : Nat} {l l1 : List Int} (h : Rdr w g A c l) (h1 : Rdr w1 g A1 c1 l1) (hg : w.grownBy w1 (some g)) : Rdr (w1.setCell ⟨g, 0, none⟩ (.slice A l.length c)) g A c l := by
  have hb := heap_setCell_same w1 g 0 _ 171 (.slice A l.length c) h1.blk
  refine ⟨hb, h.cap, ?_⟩
  refine C_block h.rd fun a ha h0 => ?_
  subst ha
  have hne := h.far h.rd h0
  have hlt : a.block < w.heap.size := by
    obtain ⟨ad, x, hA, _, _, hc⟩ := at_byte h.rd 0 h0
    injection hA with hA; subst hA
    have e0 : a.add 0 = a := by unfold Addr.add; simp
    rw [e0] at hc
    exact World.block_lt_of_cell? w a hc
  exact (Below.heap_setCell w1 ⟨g, 0, none⟩ _ a.block hne).trans (hg.block a.block hlt (fun e => hne (Option.some.inj e)))
set_option maxRecDepth 100000 in
set_option maxHeartbeats 3200000 in
theorem rbytes_calls {w : World} {g : Nat} {A : Option Addr} {c : Nat} {l : List Int} (h : Rdr w g A c l) (hby : ∀ x ∈ l, 0 ≤ x ∧ x ≤ 255) (hn : l.length ≤ 140737488351232) :
    Calls Tryz.prog 81 #[.pointer (some ⟨g, 0, none⟩)] w (RdP w g l (bytesR l)) := by
  have c0 : w.cell? ⟨g, 0, none⟩ = some (.slice A l.length c) := (blk_cell h.blk 0).trans rfl
  obtain ⟨i5, hi5, hz5, hs5, hb5⟩ := info_parts info5
  obtain ⟨s1, s2, s3⟩ := Crc.uintR_spec l
  have hu := uint_calls h hby
  have hbr : bytesR l = bytesR l := rfl
  conv at hbr => rhs; unfold bytesR
  obtain ⟨⟨n, er, u⟩, hr⟩ : ∃ r, uintR l = r := ⟨_, rfl⟩
  rw [hr] at s1 s2 s3 hu hbr
  simp only at s1 s2 s3 hu hbr
  have HR := Lib.hid h; have HBy := Lib.hid hby; have HBR := Lib.hid hbr
  clear h hby hr hbr hz5 hs5 hb5
  obtain ⟨N, hN⟩ : ∃ N, N = l.length := ⟨_, rfl⟩
  have HN := Lib.hid hN
  go_enter Tryz.func81, Tryz.ntmps81
  go_wp2_with fail
  refine hu.mono ?_
  rintro e w1 ⟨rfl, ⟨A1, c1, R1⟩, G1⟩
  have b0 : w1.cell? ⟨g, 0, none⟩ = some (.slice A1 (l.drop u).length c1) := (blk_cell R1.blk 0).trans rfl
  have f0 : w1.frozen? ⟨g, 0, none⟩ = false := blk_frozen R1.blk 0
  have HP := Lib.hid (rdr_put HR.out R1 G1)
  have hsz := G1.size
  have hgl := (Array.getElem?_eq_some_iff.1 R1.blk).1
  have HG := Lib.hid (G1.trans (grown_set w1 g 0 (.slice A l.length c)))
  have HR1 := Lib.hid R1; have HG1 := Lib.hid G1
  clear hu R1 G1 c0 hN
  by_cases h1 : er = 0
  · subst h1
    have hb := HBR.out
    rw [if_neg (by simp)] at hb
    obtain ⟨m, rfl⟩ := Int.eq_ofNat_of_zero_le s2
    obtain ⟨L, hL⟩ : ∃ L, L = l.drop u := ⟨_, rfl⟩
    have hLl : L.length = l.length - u := by rw [hL, List.length_drop]
    rw [← hLl, ← hL, Int.toNat_natCast] at hb
    rw [← hL] at b0 HR1
    have HL := Lib.hid hL
    have hq63 : (L.length : Int) ≤ 140737488351232 := by omega
    have hq0 : (0 : Int) ≤ (L.length : Int) := by omega
    have hlf := left_calls HR1.out
    obtain ⟨q, hq⟩ : ∃ q, q = L.length := ⟨_, rfl⟩
    rw [← hq] at hb hq63 hq0 b0 hlf
    have HQ := Lib.hid hq
    clear hL hLl hq HBR
    by_cases h2 : (q : Int) < (m : Int)
    · rw [if_pos h2] at hb
      have HB := Lib.hid hb
      clear hb
      go_wp2_with fail
      refine hlf.mono ?_
      rintro e w2 ⟨rfl, rfl⟩
      clear hlf
      go_wp2_with fail
      go_ret2
      rw [HB.out]
      exact ⟨.slice none 0 0, rfl, Row.nil _ _ _, ⟨A, c, HP.out⟩, HG.out⟩
    · rw [if_neg h2] at hb
      have HB := Lib.hid hb
      have hmq : m ≤ q := by omega
      have hcap := HR1.out.cap
      rw [← HQ.out] at hcap
      have hct := cut_to (P := Tryz.prog) 32 5 .u64 Tryz.underlying32 hi5 A1 q c1 (m : Int) (by omega) (by omega) hcap
      rw [Int.toNat_natCast] at hct
      have hb2 := ((Below.refl w1.heap.size w1).alloc (Nat.le_refl _) (.cells #[] 5))
      have hC2 := Kd.C_below HR1.out.rd hb2
      have hct2 := Kd.C_take (m := m) hC2 (by rw [← HQ.out]; exact hmq)
      have htl : (L.take m).length = m := by rw [List.length_take, ← HQ.out]; omega
      rw [htl] at hct2
      obtain ⟨A3, c3, w3, hrun, hrow, hgr, _⟩ := append_u8 (w1.alloc (.cells #[] 5)) w.heap.size _ [] (empty_row w1 w.heap.size hsz) A1 c1 (L.take m) (by rw [htl]; exact hct2) (by rw [htl]; simp; omega) (by simp; omega)
      simp only [List.length_nil, Nat.zero_add, List.nil_append] at hrun hrow hgr
      rw [htl] at hrun hrow
      have hb3 : Below w1.heap.size w1 w3 := hb2.grown hgr (by simp) (fun k hk => by
        have hk' : k = w1.heap.size := by simpa [Value.ownBlock] using hk.symm
        omega)
      have hC3 := Kd.C_below HR1.out.rd hb3
      rw [← HQ.out] at hC3
      have hblk3 := (hb3.block g hgl).trans HR1.out.blk
      rw [← HQ.out] at hblk3
      obtain ⟨A5, R5, hR5, hC5, hc5, hrun5⟩ := tail_cut (P := Tryz.prog) (d := Kd.int .u8) 32 5 .u64 Tryz.underlying32 info5 rfl (by rw [HQ.out] at hC3; exact hC3) (by rw [HQ.out] at hcap; exact hcap) (m : Int) m rfl (by rw [← HQ.out]; exact hmq)
      rw [← HQ.out] at hrun5
      have hfin := heap_setCell_same w3 g 0 _ 171 (.slice A5 R5.length (c1 - m)) hblk3
      have hrd : Rdr (w3.setCell ⟨g, 0, none⟩ (.slice A5 R5.length (c1 - m))) g A5 (c1 - m) R5 := ⟨hfin, hc5, C_block hC5 fun a ha h0 => by
        subst ha
        have hne : a.block ≠ g := Rdr.far (A := A1) (c := c1) (l := L) ⟨by rw [← HQ.out]; exact hblk3, HR1.out.cap, by rw [HQ.out] at hC3; exact hC3⟩ hC5 h0
        exact Below.heap_setCell w3 ⟨g, 0, none⟩ _ a.block hne⟩
      have d0 : w3.cell? ⟨g, 0, none⟩ = some (.slice A1 q c1) := (blk_cell hblk3 0).trans rfl
      have e0 : w3.frozen? ⟨g, 0, none⟩ = false := blk_frozen hblk3 0
      have hrow4 : Row (w3.setCell ⟨g, 0, none⟩ (.slice A5 R5.length (c1 - m))) w.heap.size 5 (.slice A3 m c3) (nums .u8 (L.take m)) := hrow.move fun k hk => by
        obtain ⟨_, _, cur, hcur⟩ := hrow.lt k hk
        exact set_other _ (blk_ne hcur hblk3 (by decide))
      have hgf : w.grownBy (w3.setCell ⟨g, 0, none⟩ (.slice A5 R5.length (c1 - m))) (some g) := ((HG1.out.andThen (World.grownBy_alloc w1 (.cells #[] 5) none) (by simp)).andThen hgr (fun j hj => by
        have hj' : j = w1.heap.size := by simpa [Value.ownBlock] using hj.symm
        exact .inl (by omega))).trans (grown_set w3 g 0 _)
      have HF := Lib.hid (And.intro hrd (And.intro hrow4 hgf))
      have HR5 := Lib.hid hR5
      have HRun := Lib.hid hrun
      clear hb hb2 hC2 hct2 htl hrow hgr hb3 hC3 hblk3 hR5 hC5 hc5 hfin hrd hrow4 hgf hrun
      go_wp2_with fail
      refine hlf.mono ?_
      rintro e w2 ⟨rfl, rfl⟩
      clear hlf
      go_wp2_with (at_builtin; refine wpList_append_run rfl _ _ 32 rfl _ _ _ rfl rfl HRun.out ?_)
      go_ret2
      rw [HB.out]
      refine ⟨_, rfl, HF.out.2.1, ⟨A5, c1 - m, ?_⟩, HF.out.2.2⟩
      have e5 : R5 = l.drop (u + m) := by rw [HR5.out, HL.out, List.drop_drop]
      show Rdr _ g A5 (c1 - m) (l.drop (u + m))
      rw [← e5]
      exact HF.out.1
  · have hb := HBR.out
    rw [if_pos h1] at hb
    have HB := Lib.hid hb
    have t1 : (er == 0) = false := beq_eq_false_iff_ne.2 h1
    have t2 : (er != 0) = true := bne_iff_ne.2 h1
    clear hb h1
    go_wp2_with fail
    go_ret2
    rw [HB.out]
    exact ⟨.slice none 0 0, rfl, Row.nil _ _ _, ⟨A, c, HP.out⟩, HG.out⟩
end Go.Proofs.YtiinelmednbpmaaGreat.Slot
/- A row of payloads in memory: Sync, Len. -/
namespace Go.Proofs.YtiinelmednbpmaaGreat.Slot
open Go.RowKit Go.Proofs.YtiinelmednbpmaaGreatW.PrintWords Go.Proofs.YtiinelmednbpmaaGreatW.PrintLast Go.Proofs.YtiinelmednbpmaaGreatW.PrintMore Go.Proofs.YtiinelmednbpmaaGreat.Row Go.Proofs.YtiinelmednbpmaaGreat.Cut Go.Proofs.YtiinelmednbpmaaGreat.DiskM
/-- What stays: all blocks of w but those of S; what is S' behind it was S, or is new. -/
structure Stp (w w' : World) (S S' : Nat → Prop) : Prop where
  size : w.heap.size ≤ w'.heap.size
  keep : ∀ k, k < w.heap.size → ¬ S k → w'.heap[k]? = w.heap[k]?
  new : ∀ k, S' k → S k ∨ w.heap.size ≤ k
theorem Stp.refl (w : World) (S : Nat → Prop) : Stp w w S S := ⟨Nat.le_refl _, fun _ _ _ => rfl, fun _ h => .inl h⟩
theorem Stp.trans {w1 w2 w3 : World} {S1 S2 S3 : Nat → Prop} (h : Stp w1 w2 S1 S2) (g : Stp w2 w3 S2 S3) : Stp w1 w3 S1 S3 := by
  refine ⟨Nat.le_trans h.size g.size, fun k hk hs => ?_, fun k hk => ?_⟩
  · have hs2 : ¬ S2 k := fun e => (h.new k e).elim hs (fun e' => by omega)
    exact (g.keep k (Nat.lt_of_lt_of_le hk h.size) hs2).trans (h.keep k hk hs)
  · rcases g.new k hk with e | e
    · exact h.new k e
    · exact .inr (Nat.le_trans h.size e)
theorem Stp.of_below {w w' : World} (S : Nat → Prop) (hb : Below w.heap.size w w') : Stp w w' S S := ⟨hb.size, fun k hk _ => hb.block k hk, fun _ h => .inl h⟩
theorem Stp.mono {w w' : World} {S S' T T' : Nat → Prop} (h : Stp w w' S S') (h1 : ∀ k, S k → T k) (h2 : ∀ k, T' k → T k ∨ S' k) : Stp w w' T T' :=
  ⟨h.size, fun k hk hs => h.keep k hk fun e => hs (h1 k e), fun k hk => (h2 k hk).elim .inl fun e => (h.new k e).imp (h1 k) id⟩
/-- The row of payloads: its blocks. -/
def SS (sg gd : Nat) (vr vd : Value) (k : Nat) : Prop := k = gd ∨ some k = vd.ownBlock ∨ k = sg ∨ some k = vr.ownBlock
structure Sg (w0 w : World) (sg gd : Nat) (vr vd : Value) (room : Int) (bs : List Int) (safe : Nat) : Prop where
  disk : Dk w0 w gd vd room bs safe
  low : w0.heap.size ≤ sg
  blk : ∃ t, w.heap[sg]? = some (.cells #[.iface 64 (.pointer (some ⟨gd, 0, none⟩)), vr, .int .i64 t] 139 (0, 0))
  row : ∃ xs, Row w w0.heap.size 32 vr xs ∧ xs.length ≤ bs.length ∧ ∀ u ∈ xs, u.oneCell' = true
theorem fr_stp {w w' : World} {sg gd : Nat} {vr vd vd' : Value} (h : Fr w w' gd vd vd') : Stp w w' (SS sg gd vr vd) (SS sg gd vr vd') := by
  obtain ⟨h1, h2, h3⟩ := h
  refine ⟨h1, fun k hk hs => h2 k hk (fun e => hs (.inl e)) (fun e => hs (.inr (.inl e))), fun k hk => ?_⟩
  rcases hk with e | e | e | e
  · exact .inl (.inl e)
  · rcases h3 with q | q | ⟨b, q, hb⟩
    · rw [q] at e; cases e
    · exact .inl (.inr (.inl (e.trans q)))
    · rw [q] at e; injection e with e; exact .inr (by omega)
  · exact .inl (.inr (.inr (.inl e)))
  · exact .inl (.inr (.inr (.inr e)))
section
variable {w0 w w' : World} {sg gd : Nat} {vr vd vd' : Value} {room : Int} {bs bs' : List Int} {safe safe' : Nat}
/-- The disk was turned alone. -/
theorem Sg.turn (h : Sg w0 w sg gd vr vd room bs safe) (D : Dk w0 w' gd vd' room bs' safe') (hf : Fr w w' gd vd vd') (hl : bs.length ≤ bs'.length) : Sg w0 w' sg gd vr vd' room bs' safe' := by
  obtain ⟨t, hb⟩ := h.blk
  obtain ⟨xs, hr, hx, h1⟩ := h.row
  have hne : ∀ {k : Nat} {cs : Array Value} {ty : TypeId}, w.heap[k]? = some (.cells cs ty (0, 0)) → ty ≠ 103 → ty ≠ 5 → w'.heap[k]? = w.heap[k]? := by
    intro k cs ty hk h1 h2
    refine hf.2.1 k (Array.getElem?_eq_some_iff.1 hk).1 (blk_ne hk h.disk.blk h1) fun e => ?_
    obtain ⟨_, _, cur, hc⟩ := h.disk.row.lt k e.symm
    rw [hk] at hc
    injection hc with hc
    injection hc with _ hc
    exact h2 hc
  refine ⟨D, h.low, ⟨t, (hne hb (by decide) (by decide)).trans hb⟩, ⟨xs, hr.move fun k hk => ?_, Nat.le_trans hx hl, h1⟩⟩
  obtain ⟨_, _, cur, hc⟩ := hr.lt k hk
  exact hne hc (by decide) (by decide)
theorem Sg.row_turn (h : Sg w0 w sg gd vr vd room bs safe) (hf : Fr w w' gd vd vd') {xs : List Value} (hr : Row w w0.heap.size 32 vr xs) : Row w' w0.heap.size 32 vr xs := hr.move fun k hk => by
  obtain ⟨_, hlt, cur, hc⟩ := hr.lt k hk
  refine hf.2.1 k hlt (blk_ne hc h.disk.blk (by decide)) fun e => ?_
  obtain ⟨_, _, cur2, hc2⟩ := h.disk.row.lt k e.symm
  exact blk_ne hc hc2 (by decide) rfl
theorem Sg.below (h : Sg w0 w sg gd vr vd room bs safe) (hb : Below w.heap.size w w') : Sg w0 w' sg gd vr vd room bs safe := by
  obtain ⟨t, hk⟩ := h.blk
  obtain ⟨xs, hr, hx, h1⟩ := h.row
  exact ⟨h.disk.step hb, h.low, ⟨t, (hb.block _ (Array.getElem?_eq_some_iff.1 hk).1).trans hk⟩, ⟨xs, hr.below hb, hx, h1⟩⟩
end
theorem meth_sync (n : Nat) (a : Addr) (w : World) : (method (n + 1) 64 (.pointer (some a)) "Sync").run Tryz.prog w = .ok (68, .pointer (some a)) w := by kernel_rfl
theorem meth_append (n : Nat) (a : Addr) (w : World) : (method (n + 1) 64 (.pointer (some a)) "Append").run Tryz.prog w = .ok (165, .pointer (some a)) w := by kernel_rfl
theorem meth_bytes (n : Nat) (a : Addr) (w : World) : (method (n + 1) 64 (.pointer (some a)) "Bytes").run Tryz.prog w = .ok (166, .pointer (some a)) w := by kernel_rfl
theorem meth_cut (n : Nat) (a : Addr) (w : World) : (method (n + 1) 64 (.pointer (some a)) "Cut").run Tryz.prog w = .ok (67, .pointer (some a)) w := by kernel_rfl
set_option maxRecDepth 100000 in
set_option maxHeartbeats 2000000 in
theorem ssync_calls {w0 w : World} {sg gd : Nat} {vr vd : Value} {room : Int} {bs : List Int} {safe : Nat} (h : Sg w0 w sg gd vr vd room bs safe) :
    Calls Tryz.prog 85 #[.pointer (some ⟨sg, 0, none⟩)] w fun e w' => e = .returned (.tuple #[]) ∧ Sg w0 w' sg gd vr vd room bs bs.length ∧ Stp w w' (SS sg gd vr vd) (SS sg gd vr vd) := by
  obtain ⟨t, hb⟩ := h.blk
  have c0 := (blk_cell hb 0).trans rfl
  have HS := Lib.hid h
  have hm := meth_sync
  clear h hb
  go_enter Tryz.func85, Tryz.ntmps85
  go_wp2_with fail
  refine (sync_calls HS.out.disk).mono ?_
  rintro e w' ⟨rfl, D, F⟩
  have HF := Lib.hid (And.intro (HS.out.turn D F (Nat.le_refl _)) (fr_stp (sg := sg) (vr := vr) F))
  clear D F c0 hm
  go_wp2_with fail
  go_end0
  exact ⟨rfl, HF.out⟩
end Go.Proofs.YtiinelmednbpmaaGreat.Slot
/- A node in memory. -/
namespace Go.Proofs.YtiinelmednbpmaaGreat.Slot
open Go.RowKit Go.Maps Go.Proofs.YtiinelmednbpmaaGreatW.PrintWords Go.Proofs.YtiinelmednbpmaaGreatW.PrintMore Go.Proofs.YtiinelmednbpmaaGreat.Row Go.Proofs.YtiinelmednbpmaaGreat.Cut Go.Proofs.YtiinelmednbpmaaGreat.DiskM Go.Proofs.YtiinelmednbpmaaGreat.Quor
abbrev W64 (a : Int) : Prop := (Lit.int .i64 a).wf = true
theorem w64_of {a : Int} (h0 : -9223372036854775808 ≤ a) (h1 : a ≤ 9223372036854775807) : W64 a := WalkArith.wf_i64 ⟨h0, h1⟩
theorem keyedI : Keyed Tryz.prog 3 := int_keyed Tryz.underlying3
theorem keyOf_I {a : Int} (h : W64 a) : keyOf Tryz.prog 3 (.int .i64 a) = some (.int .i64 a) := keyOf_int_mk Tryz.underlying3 h
theorem isKeyI {a : Int} (h : W64 a) : WideAt.IsKeyLit (.int .i64 a) := keyedI.key (keyOf_I h)
def RC4 (v : Value) : Option (DataW Value × List MemPlace) :=
  match v with
  | .agg ⟨[.int .i64 _, .int .i64 _, .slice _ _ _]⟩ => some (.held v, [])
  | _ => none
theorem RC4_mk (z : C4) : RC4 (agg4 z) = some (.held (agg4 z), []) := rfl
theorem RC4_inv {v : Value} {y : DataW Value × List MemPlace} (h : RC4 v = some y) : y = (.held v, []) := by
  unfold RC4 at h
  split at h
  · exact (Option.some.inj h).symm
  · cases h
def zero4 : Value := .agg #[.int .i64 0, .int .i64 0, .slice none 0 0]
def look4 (m : List C4) (a : Int) : Option C4 := m.find? fun z => decide (z.at_ = a)
def put4 (z : C4) (m : List C4) : List C4 := z :: m.filter fun x => decide (x.at_ ≠ z.at_)
def val4 (o : Option C4) : Value := o.elim zero4 agg4
theorem look_map (m : List C4) (a : Int) : look (m.map C4.c3) a = (look4 m a).map C4.c3 := by
  unfold look look4
  rw [List.find?_map]; rfl
theorem put_map (z : C4) (m : List C4) : putC z.c3 (m.map C4.c3) = (put4 z m).map C4.c3 := by
  unfold putC put4
  rw [List.map_cons, List.filter_map]; rfl
theorem look4_mem {m : List C4} {a : Int} {z : C4} (h : look4 m a = some z) : z ∈ m ∧ z.at_ = a := by
  unfold look4 at h
  have h2 := List.find?_some h
  exact ⟨List.mem_of_find?_eq_some h, of_decide_eq_true h2⟩
theorem look4_put (z : C4) (m : List C4) (a : Int) : look4 (put4 z m) a = if z.at_ = a then some z else look4 m a := by
  unfold look4 put4
  rw [List.find?_cons]
  by_cases h : z.at_ = a
  · simp [h]
  · rw [if_neg h, decide_eq_false h]
    simp only
    rw [List.find?_filter]
    congr 1
    funext x
    by_cases hx : x.at_ = a
    · have h' : ¬ a = z.at_ := fun e => h e.symm
      simp [hx, h']
    · simp [hx]
theorem mem_put4 {z x : C4} {m : List C4} (h : x ∈ put4 z m) : x = z ∨ x ∈ m := by
  unfold put4 at h
  rcases List.mem_cons.1 h with h | h
  · exact .inl h
  · exact .inr (List.mem_filter.1 h).1
theorem put4_len {m : List C4} (h : Once (m.map C4.c3)) (z : C4) : (put4 z m).length = if (look4 m z.at_).isSome then m.length else m.length + 1 := by
  have h1 := put_len h z.c3
  rw [put_map, List.length_map, List.length_map, show z.c3.1 = z.at_ from rfl, look_map] at h1
  rw [h1]
  cases look4 m z.at_ <;> rfl
/-- The map's datum tells just the cells. -/
def Agr (D : DataW Value) (m : List C4) : Prop := Maps.Tidy D ∧ Maps.size D = m.length ∧ ∀ a, W64 a → D.atKey (.int .i64 a) (.held zero4) = .held (val4 (look4 m a)) ∧ Maps.has D (.int .i64 a) = (look4 m a).isSome
theorem Agr.nil : Agr (.map []) [] := ⟨Maps.tidy_empty, rfl, fun _ _ => ⟨rfl, rfl⟩⟩
theorem Agr.put {D : DataW Value} {m : List C4} (h : Agr D m) (ho : Once (m.map C4.c3)) {z : C4} (hz : W64 z.at_) : Agr (D.put (.int .i64 z.at_) (.held (agg4 z))) (put4 z m) := by
  refine ⟨h.1.put (isKeyI hz) _, ?_, fun a ha => ?_⟩
  · rw [Maps.size_put h.1, (h.2.2 _ hz).2, put4_len ho, h.2.1]
  · rw [look4_put]
    by_cases e : z.at_ = a
    · subst e
      rw [if_pos rfl, Maps.atKey_put_same h.1.isMap (isKeyI hz), Maps.has_put_same h.1.isMap (isKeyI hz)]
      exact ⟨rfl, rfl⟩
    · have hne : (Lit.int .i64 a) ≠ .int .i64 z.at_ := fun h' => e (by injection h' with _ h'; exact h'.symm)
      rw [if_neg e, Maps.atKey_put_other hne, Maps.has_put_other hne]
      exact h.2.2 a ha
/-- A node's blocks. -/
structure NB where
  gn : Nat
  sg : Nat
  gd : Nat
  mb : Nat
  vr : Value
  vd : Value
  P : Nat → Prop
def NB.gp (n : NB) : Nat × (Nat → Prop) := (n.gd, n.P)
def SN (n : NB) (k : Nat) : Prop := SS n.sg n.gd n.vr n.vd k ∨ k = n.gn ∨ k = n.mb
abbrev sl4 (z : C4) : Value := .slice z.A z.by_.length z.c
structure Nd (w0 w : World) (n : NB) (room : Int) (bs : List Int) (safe : Nat) (ep : Int) (m : List C4) : Prop where
  seg : Sg w0 w n.sg n.gd n.vr n.vd room bs safe
  lown : w0.heap.size ≤ n.gn
  lowm : w0.heap.size ≤ n.mb
  blk : w.heap[n.gn]? = some (.cells #[.pointer (some ⟨n.sg, 0, none⟩), .int .i64 ep, .map (some n.mb)] 108 (0, 0))
  map : ∃ D, w.ownsMap Tryz.prog 3 RC4 n.mb m.length D ∧ Agr D m
  once : Once (m.map C4.c3)
  rows : ∀ z ∈ m, Row w w0.heap.size 5 (sl4 z) (nums .u8 z.by_) ∧ ∀ k, (sl4 z).ownBlock = some k → some k ≠ n.vd.ownBlock ∧ ¬ n.P k
  rng : 0 ≤ ep ∧ ep ≤ 1048576
  rngc : ∀ z ∈ m, (0 ≤ z.at_ ∧ z.at_ ≤ 4095) ∧ (0 ≤ z.ep ∧ z.ep ≤ 1048576) ∧ z.by_.length ≤ 2048 ∧ ∀ x ∈ z.by_, 0 ≤ x ∧ x ≤ 255
  pb : ∀ k, n.P k → k < w.heap.size
section
variable {w0 w w' : World} {sg gd : Nat} {vr vd : Value} {room : Int} {bs : List Int} {safe : Nat} {n : NB} {ep : Int} {m : List C4}
theorem Sg.typed (h : Sg w0 w sg gd vr vd room bs safe) {k : Nat} (hk : SS sg gd vr vd k) : ∃ cs ty, w.heap[k]? = some (.cells cs ty (0, 0)) ∧ ty ≠ 108 ∧ ty ≠ 171 ∧ ty ≠ 77 := by
  obtain ⟨t, hb⟩ := h.blk
  obtain ⟨xs, hr, _, _⟩ := h.row
  rcases hk with rfl | e | rfl | e
  · exact ⟨_, _, h.disk.blk, by decide, by decide, by decide⟩
  · obtain ⟨_, _, cur, hc⟩ := h.disk.row.lt k e.symm
    exact ⟨_, _, hc, by decide, by decide, by decide⟩
  · exact ⟨_, _, hb, by decide, by decide, by decide⟩
  · obtain ⟨_, _, cur, hc⟩ := hr.lt k e.symm
    exact ⟨_, _, hc, by decide, by decide, by decide⟩
theorem Sg.keep (h : Sg w0 w sg gd vr vd room bs safe) (hb : Below w0.heap.size w0 w') (hk : ∀ k, SS sg gd vr vd k → w'.heap[k]? = w.heap[k]?) : Sg w0 w' sg gd vr vd room bs safe := by
  obtain ⟨t, hs⟩ := h.blk
  obtain ⟨xs, hr, hx, h1⟩ := h.row
  have D := h.disk
  exact ⟨⟨hb, D.kg, (hk _ (.inl rfl)).trans D.blk, D.row.move fun k e => hk k (.inr (.inl e.symm)), D.room1, D.fit, D.sf, D.byte⟩, h.low, ⟨t, (hk _ (.inr (.inr (.inl rfl)))).trans hs⟩, ⟨xs, hr.move fun k e => hk k (.inr (.inr (.inr e.symm))), hx, h1⟩⟩
theorem Nd.lt (h : Nd w0 w n room bs safe ep m) {k : Nat} (hk : SN n k) : k < w.heap.size := by
  rcases hk with e | rfl | rfl
  · obtain ⟨_, _, hc, _⟩ := h.seg.typed e
    exact (Array.getElem?_eq_some_iff.1 hc).1
  · exact (Array.getElem?_eq_some_iff.1 h.blk).1
  · obtain ⟨D, hD, _⟩ := h.map
    exact hD.lt
theorem Nd.low (h : Nd w0 w n room bs safe ep m) {k : Nat} (hk : SN n k) : w0.heap.size ≤ k := by
  rcases hk with e | rfl | rfl
  · obtain ⟨xs, hr, _, _⟩ := h.seg.row
    rcases e with rfl | e | rfl | e
    · exact h.seg.disk.kg
    · exact (h.seg.disk.row.lt k e.symm).1
    · exact h.seg.low
    · exact (hr.lt k e.symm).1
  · exact h.lown
  · exact h.lowm
/-- The map's block is no row of cells. -/
theorem Nd.map_ne (h : Nd w0 w n room bs safe ep m) {k : Nat} {cs : Array Value} {ty : TypeId} {fr : Nat × Nat} (hk : w.heap[k]? = some (.cells cs ty fr)) : k ≠ n.mb := by
  intro e
  obtain ⟨D, ⟨es, clock, hb, _⟩, _⟩ := h.map
  rw [e, hb] at hk
  cases hk
theorem Nd.cells (h : Nd w0 w n room bs safe ep m) : w.cell? ⟨n.gn, 0, none⟩ = some (.pointer (some ⟨n.sg, 0, none⟩)) ∧ w.cell? ⟨n.gn, 1, none⟩ = some (.int .i64 ep) ∧ w.cell? ⟨n.gn, 2, none⟩ = some (.map (some n.mb)) ∧ ∀ i, w.frozen? ⟨n.gn, i, none⟩ = false :=
  ⟨(blk_cell h.blk 0).trans rfl, (blk_cell h.blk 1).trans rfl, (blk_cell h.blk 2).trans rfl, fun i => blk_frozen h.blk i⟩
theorem Nd.below (h : Nd w0 w n room bs safe ep m) (hb : Below w.heap.size w w') : Nd w0 w' n room bs safe ep m := by
  obtain ⟨D, hD, hA⟩ := h.map
  exact ⟨h.seg.below hb, h.lown, h.lowm, (hb.block _ (Array.getElem?_eq_some_iff.1 h.blk).1).trans h.blk, ⟨D, hD.kept (grown_of_below hb) (by simp), hA⟩, h.once, fun z hz => ⟨(h.rows z hz).1.below hb, (h.rows z hz).2⟩, h.rng, h.rngc, fun k hk => Nat.lt_of_lt_of_le (h.pb k hk) hb.size⟩
/-- The epoch is turned. -/
theorem Nd.epoch (h : Nd w0 w n room bs safe ep m) (e : Int) (he : 0 ≤ e ∧ e ≤ 1048576) : Nd w0 (w.setCell ⟨n.gn, 1, none⟩ (.int .i64 e)) n room bs safe e m := by
  obtain ⟨D, hD, hA⟩ := h.map
  have hk : ∀ k, k ≠ n.gn → (w.setCell ⟨n.gn, 1, none⟩ (.int .i64 e)).heap[k]? = w.heap[k]? := fun k hk => Below.heap_setCell w ⟨n.gn, 1, none⟩ _ k hk
  refine ⟨h.seg.keep (below_set h.seg.disk.below h.lown) fun k hs => hk k ?_, h.lown, h.lowm, heap_setCell_same w n.gn 1 _ 108 _ h.blk, ⟨D, hD.kept (grown_set w n.gn 1 _) ?_, hA⟩, h.once, fun z hz => ⟨(h.rows z hz).1.move fun k hr => hk k ?_, (h.rows z hz).2⟩, he, h.rngc, fun k hk => by simpa using h.pb k hk⟩
  · obtain ⟨cs, ty, hc, h1, _⟩ := h.seg.typed hs
    exact blk_ne hc h.blk h1
  · intro e
    exact h.map_ne h.blk (Option.some.inj e).symm
  · obtain ⟨_, _, cur, hc⟩ := (h.rows z hz).1.lt k hr
    exact blk_ne hc h.blk (by decide)
theorem Nd.few (h : Nd w0 w n room bs safe ep m) : m.length ≤ 4096 := by
  have h1 := nodup_le 4096 (m.map C4.at_) ?_ ?_
  · rwa [List.length_map] at h1
  · have := h.once
    unfold Once at this
    rw [List.pairwise_map] at this ⊢
    exact this
  · intro x hx
    obtain ⟨z, hz, rfl⟩ := List.mem_map.1 hx
    have := (h.rngc z hz).1
    omega
/-- A cell is put: w2 is w with the map turned. -/
theorem Nd.put (h : Nd w0 w n room bs safe ep m) (z : C4) (hrow : Row w w0.heap.size 5 (sl4 z) (nums .u8 z.by_)) (hne : ∀ k, (sl4 z).ownBlock = some k → some k ≠ n.vd.ownBlock ∧ ¬ n.P k)
    (hz : (0 ≤ z.at_ ∧ z.at_ ≤ 4095) ∧ (0 ≤ z.ep ∧ z.ep ≤ 1048576) ∧ z.by_.length ≤ 2048 ∧ ∀ x ∈ z.by_, 0 ≤ x ∧ x ≤ 255) :
    ∃ w2, (Instr.mapUpdate 106 (.map (some n.mb)) (.int .i64 z.at_) (agg4 z)).run Tryz.prog w = .ok () w2 ∧ Nd w0 w2 n room bs safe ep (put4 z m) ∧ w.grownBy w2 (some n.mb) := by
  obtain ⟨D, hD, hA⟩ := h.map
  have hm := h.few
  have hw := w64_of (a := z.at_) (by omega) (by omega)
  obtain ⟨w2, hrun, hD2, hg⟩ := hD.update keyedI Tryz.underlying106 (by unfold maxLen; omega) (keyOf_I hw) (RC4_mk z)
  have hk : ∀ k, k < w.heap.size → k ≠ n.mb → w2.heap[k]? = w.heap[k]? := fun k hk hn => hg.block k hk (fun e => hn (Option.some.inj e))
  have hA2 := hA.put h.once hw
  have hD3 : w2.ownsMap Tryz.prog 3 RC4 n.mb (put4 z m).length (D.put (.int .i64 z.at_) (.held (agg4 z))) := by
    have hsz := hA2.2.1
    obtain ⟨es, clock, hb, F, _, hDe⟩ := hD2
    refine ⟨es, clock, hb, F, ?_, hDe⟩
    rw [hDe] at hsz
    rw [← hsz, Maps.size_eq, length_sorted]
    simp
  refine ⟨w2, hrun, ⟨h.seg.keep (h.seg.disk.below.grown hg h.seg.disk.below.size fun k e => ?_) fun k hs => ?_, h.lown, h.lowm, ?_, ⟨_, hD3, hA2⟩, ?_, fun x hx => ?_, h.rng, fun x hx => ?_, fun k hk => Nat.lt_of_lt_of_le (h.pb k hk) hg.size⟩, hg⟩
  · obtain rfl := Option.some.inj e
    exact h.lowm
  · obtain ⟨cs, ty, hc, _⟩ := h.seg.typed hs
    exact hk k (Array.getElem?_eq_some_iff.1 hc).1 (h.map_ne hc)
  · exact (hk _ (Array.getElem?_eq_some_iff.1 h.blk).1 (h.map_ne h.blk)).trans h.blk
  · rw [← put_map]; exact h.once.put _
  · have hr : Row w w0.heap.size 5 (sl4 x) (nums .u8 x.by_) ∧ ∀ k, (sl4 x).ownBlock = some k → some k ≠ n.vd.ownBlock ∧ ¬ n.P k := by
      rcases mem_put4 hx with rfl | hx
      · exact ⟨hrow, hne⟩
      · exact h.rows x hx
    refine ⟨hr.1.move fun k e => ?_, hr.2⟩
    obtain ⟨_, hlt, cur, hc⟩ := hr.1.lt k e
    exact hk k hlt (h.map_ne hc)
  · rcases mem_put4 hx with rfl | hx
    · exact hz
    · exact h.rngc x hx
/-- The lookup of a slot. -/
theorem Nd.lookup (h : Nd w0 w n room bs safe ep m) {a : Int} (ha : W64 a) : (Instr.lookup 106 (.map (some n.mb)) (.int .i64 a) true).run Tryz.prog w = .ok (.tuple #[val4 (look4 m a), .bool (look4 m a).isSome]) w := by
  obtain ⟨D, hD, hA⟩ := h.map
  obtain ⟨v, ps, hrun, hv⟩ := hD.look_ok keyedI Tryz.underlying106 (z := zero4) (by kernel_rfl) (RC4_mk ⟨0, 0, [], none, 0⟩) (keyOf_I ha)
  have hc := RC4_inv hv
  have h1 : D.atKey (.int .i64 a) (.held zero4) = .held v := congrArg Prod.fst hc
  rw [(hA.2.2 a ha).1] at h1
  rw [(hA.2.2 a ha).2] at hrun
  have h2 : val4 (look4 m a) = v := by injection h1
  rw [h2]; exact hrun
end
end Go.Proofs.YtiinelmednbpmaaGreat.Slot
/- The walk of redo: what a payload makes of a node. -/
namespace Go.Proofs.YtiinelmednbpmaaGreat.Slot
open Go.RowKit Go.Maps Go.Proofs.YtiinelmednbpmaaGreatW.PrintWords Go.Proofs.YtiinelmednbpmaaGreatW.PrintMore Go.Proofs.YtiinelmednbpmaaGreat.Row Go.Proofs.YtiinelmednbpmaaGreat.Cut Go.Proofs.YtiinelmednbpmaaGreat.DiskM Go.Proofs.YtiinelmednbpmaaGreat.Quor
open Go.Proofs.YtiinelmednbpmaaGreat.Pack (Rdr uintR from_calls uint_calls left_calls)
theorem redo_none {s : Int × List B3} {b : List Int} (h : headR b = none) : redoF s b = s := by unfold redoF; rw [h]
theorem redo_seal {s : Int × List B3} {b r : List Int} {ee : Int} (h : headR b = some ⟨2, ee, r⟩) : redoF s b = if r = [] ∧ s.1 < ee then (ee, s.2) else s := by
  unfold redoF; rw [h]; simp only; rw [if_pos trivial]
theorem redo_other {s : Int × List B3} {b r : List Int} {wh ee : Int} (h : headR b = some ⟨wh, ee, r⟩) (h2 : wh ≠ 2) (h1 : wh ≠ 1) : redoF s b = s := by
  unfold redoF; rw [h]; simp only; rw [if_neg h2, if_neg h1]
theorem redo_c0 {s : Int × List B3} {b r : List Int} {ee : Int} (h : headR b = some ⟨1, ee, r⟩) (hc : cellR r = none) : redoF s b = s := by
  unfold redoF; rw [h]; simp only; rw [if_neg (by decide), if_pos trivial, hc]
theorem redo_c1 {s : Int × List B3} {b r x : List Int} {ee a : Int} (h : headR b = some ⟨1, ee, r⟩) (hc : cellR r = some (a, x)) (he : ee < s.1) : redoF s b = s := by
  unfold redoF; rw [h]; simp only; rw [if_neg (by decide), if_pos trivial, hc]; simp only; rw [if_pos he]
theorem redo_c2 {s : Int × List B3} {b r x : List Int} {ee a : Int} (h : headR b = some ⟨1, ee, r⟩) (hc : cellR r = some (a, x)) (he : ¬ ee < s.1) (hl : look s.2 a = none) : redoF s b = (s.1, putC (a, ee, x) s.2) := by
  unfold redoF; rw [h]; simp only; rw [if_neg (by decide), if_pos trivial, hc]; simp only; rw [if_neg he, hl]
theorem redo_c3 {s : Int × List B3} {b r x : List Int} {ee a : Int} {d : B3} (h : headR b = some ⟨1, ee, r⟩) (hc : cellR r = some (a, x)) (he : ¬ ee < s.1) (hl : look s.2 a = some d) : redoF s b = if d.2.1 < ee then (s.1, putC (a, ee, x) s.2) else s := by
  unfold redoF; rw [h]; simp only; rw [if_neg (by decide), if_pos trivial, hc]; simp only; rw [if_neg he, hl]
theorem row_low {w : World} {base base' : Nat} {e : TypeId} {v : Value} {xs : List Value} (h : Row w base e v xs) (hb : base' ≤ base) : Row w base' e v xs := by
  rcases h with h | ⟨g, c, cur, h1, h2, h3⟩
  · exact .inl h
  · exact .inr ⟨g, c, cur, h1, Nat.le_trans hb h2, h3⟩
/-- The node's own blocks: what redo turns. -/
def NM (n : NB) (k : Nat) : Prop := k = n.gn ∨ k = n.mb
theorem NM.all {w w' : World} {n : NB} (h : Stp w w' (NM n) (NM n)) : Stp w w' (SN n) (SN n) := h.mono (fun _ e => .inr e) (fun _ e => .inl e)
def RedoP (w0 w : World) (n : NB) (room : Int) (bs : List Int) (safe : Nat) (ep : Int) (m : List C4) (b : List Int) (e : Ending) (w' : World) : Prop :=
  ∃ ep' m', e = .returned (.tuple #[]) ∧ (ep', m'.map C4.c3) = redoF (ep, m.map C4.c3) b ∧ Nd w0 w' n room bs safe ep' m' ∧ Stp w w' (NM n) (NM n)
section
variable {w0 w w' : World} {n : NB} {room : Int} {bs : List Int} {safe : Nat} {ep : Int} {m : List C4} {b : List Int}
theorem RedoP.same (N : Nd w0 w n room bs safe ep m) (hb : Below w.heap.size w w') (h : redoF (ep, m.map C4.c3) b = (ep, m.map C4.c3)) : RedoP w0 w n room bs safe ep m b (.returned (.tuple #[])) w' :=
  ⟨ep, m, rfl, h.symm, N.below hb, Stp.of_below _ hb⟩
/-- Behind growth, a block of the node is turned. -/
theorem stp_grown {w1 w2 : World} {k0 : Nat} (hb : Below w.heap.size w w1) (hg : w1.grownBy w2 (some k0)) (hk : NM n k0) : Stp w w2 (NM n) (NM n) :=
  ⟨Nat.le_trans hb.size hg.size, fun k hlt hs => (hg.block k (Nat.lt_of_lt_of_le hlt hb.size) (fun e => hs (by obtain rfl := Option.some.inj e; exact hk))).trans (hb.block k hlt), fun _ h => .inl h⟩
theorem RedoP.put (N : Nd w0 w n room bs safe ep m) {B : Nat} {w2 w3 : World} (hb2 : Below w.heap.size w w2) (hB : w.heap.size ≤ B) {z : C4} (hrow : Row w2 B 5 (sl4 z) (nums .u8 z.by_)) (hb23 : Below w2.heap.size w2 w3)
    (hz : (0 ≤ z.at_ ∧ z.at_ ≤ 4095) ∧ (0 ≤ z.ep ∧ z.ep ≤ 1048576) ∧ z.by_.length ≤ 2048 ∧ ∀ x ∈ z.by_, 0 ≤ x ∧ x ≤ 255) (h : redoF (ep, m.map C4.c3) b = (ep, putC z.c3 (m.map C4.c3))) :
    ∃ w4, (Instr.mapUpdate 106 (.map (some n.mb)) (.int .i64 z.at_) (agg4 z)).run Tryz.prog w3 = .ok () w4 ∧ RedoP w0 w n room bs safe ep m b (.returned (.tuple #[])) w4 := by
  have hb3 : Below w.heap.size w w3 := below_step hb2 hb23
  have hl : w0.heap.size ≤ B := Nat.le_trans N.seg.disk.below.size hB
  obtain ⟨w4, hrun, hN, hg⟩ := (N.below hb3).put z (row_low (hrow.below hb23) hl) (fun k hk => by
    obtain ⟨h1, _, _⟩ := hrow.lt k hk
    exact ⟨fun e => by
      have := N.lt (k := k) (.inl (.inr (.inl e)))
      omega, fun e => by
      have := N.pb k e
      omega⟩) hz
  exact ⟨w4, hrun, ep, put4 z m, rfl, by rw [h, put_map], hN, stp_grown hb3 hg (.inr rfl)⟩
end
set_option maxRecDepth 1000000 in
set_option maxHeartbeats 8000000 in
theorem redo_calls {w0 w : World} {n : NB} {room : Int} {bs : List Int} {safe : Nat} {ep : Int} {m : List C4} (N : Nd w0 w n room bs safe ep m) (A : Option Addr) (c : Nat) (l : List Int) (hC : (Kd.int .u8).C w A l.length l) (hby : ∀ x ∈ l, 0 ≤ x ∧ x ≤ 255) (hl : l.length ≤ 1048576) :
    Calls Tryz.prog 52 #[.pointer (some ⟨n.gn, 0, none⟩), .slice A l.length c] w (RedoP w0 w n room bs safe ep m l) := by
  have hrg := N.rng
  have HN := Lib.hid N; have HC := Lib.hid hC; have HBy := Lib.hid hby
  clear N hC hby
  go_enter Tryz.func52, Tryz.ntmps52
  go_wp2_with fail
  refine (from_calls A l.length c l w rfl (by omega) HC.out).mono ?_
  rintro e w1 ⟨g, rfl, hg, ⟨A1, c1, R1⟩, hb1⟩
  have HR1 := Lib.hid R1; have HB1 := Lib.hid hb1
  clear R1 hb1
  go_wp2_with fail
  refine (uint_calls HR1.out HBy.out).mono ?_
  rintro e w2 ⟨rfl, ⟨A2, c2, R2⟩, G2⟩
  have HB2 := Lib.hid (HB1.out.grown G2 HB1.out.size (fun j hj => by injection hj with hj; omega))
  obtain ⟨l1, hl1⟩ : ∃ l1, l1 = l.drop (uintR l).2.2 := ⟨_, rfl⟩
  have hby1 : ∀ x ∈ l1, 0 ≤ x ∧ x ≤ 255 := fun x hx => HBy.out x (List.mem_of_mem_drop (hl1 ▸ hx))
  have hll1 : l1.length ≤ l.length := by rw [hl1, List.length_drop]; omega
  rw [← hl1] at R2
  have HR2 := Lib.hid R2; have HBy1 := Lib.hid hby1
  have hh : headR l = if (uintR l).2.1 ≠ 0 ∨ (uintR l1).2.1 ≠ 0 ∨ 1048576 < (uintR l1).1 then none else some ⟨(uintR l).1, (uintR l1).1, l1.drop (uintR l1).2.2⟩ := by unfold headR; rw [← hl1]
  obtain ⟨s1, s2, s3⟩ := Crc.uintR_spec l
  obtain ⟨⟨wh, er, u⟩, hu⟩ : ∃ r, uintR l = r := ⟨_, rfl⟩
  rw [hu] at hh s1 s2 s3 ⊢
  simp only at hh s1 s2 s3 ⊢
  have HH := Lib.hid hh
  clear R2 G2 hh hl1 hu hby1
  go_wp2_with fail
  refine (uint_calls HR2.out HBy1.out).mono ?_
  rintro e w3 ⟨rfl, ⟨A3, c3, R3⟩, G3⟩
  have HB3 := Lib.hid (HB2.out.grown G3 HB2.out.size (fun j hj => by injection hj with hj; omega))
  obtain ⟨l2, hl2⟩ : ∃ l2, l2 = l1.drop (uintR l1).2.2 := ⟨_, rfl⟩
  have hby2 : ∀ x ∈ l2, 0 ≤ x ∧ x ≤ 255 := fun x hx => HBy1.out x (List.mem_of_mem_drop (hl2 ▸ hx))
  have hll2 : l2.length ≤ l1.length := by rw [hl2, List.length_drop]; omega
  have hh := HH.out
  rw [← hl2] at R3 hh
  have HR3 := Lib.hid R3; have HBy2 := Lib.hid hby2
  obtain ⟨q1, q2, q3⟩ := Crc.uintR_spec l1
  obtain ⟨⟨ee, er2, u2⟩, hu2⟩ : ∃ r, uintR l1 = r := ⟨_, rfl⟩
  rw [hu2] at hh q1 q2 q3 ⊢
  simp only at hh q1 q2 q3 ⊢
  clear HH R3 G3 hl2 hu2 hby2
  by_cases h1 : er = 0
  · subst h1
    by_cases h2 : er2 = 0
    · subst h2
      by_cases h3 : 1048576 < ee
      · rw [if_pos (.inr (.inr h3))] at hh
        have HH := Lib.hid (redo_none (s := (ep, m.map C4.c3)) hh)
        clear hh
        go_wp2_with fail
        go_end0
        exact RedoP.same HN.out HB3.out HH.out
      · rw [if_neg (fun e => e.elim (fun e => e rfl) (fun e => e.elim (fun e => e rfl) h3))] at hh
        have hN3 := HN.out.below HB3.out
        obtain ⟨d0, d1, d2, df⟩ := hN3.cells
        have hf1 := df 1
        have h3' : decide (1048576 < ee) = false := decide_eq_false h3
        clear df
        by_cases hw2 : wh = 2
        · subst hw2
          have hF := redo_seal (s := (ep, m.map C4.c3)) hh
          have hlf := left_calls HR3.out
          obtain ⟨q, hq⟩ : ∃ q, q = l2.length := ⟨_, rfl⟩
          rw [← hq] at hlf
          by_cases hq0 : q = 0
          · have hl2n : l2 = [] := List.length_eq_zero_iff.1 (by omega)
            have tq : ((q : Int) == 0) = true := beq_iff_eq.2 (by omega)
            by_cases he : ep < ee
            · rw [if_pos ⟨hl2n, he⟩] at hF
              have HF := Lib.hid hF
              have HE := Lib.hid (hN3.epoch ee ⟨q2, by omega⟩)
              have HQ := Lib.hid hq0
              clear hF hh hq hl2n hN3 hq0
              go_wp2_with fail
              refine hlf.mono ?_
              rintro e w4 ⟨rfl, rfl⟩
              clear hlf
              go_wp2_with fail
              go_end0
              exact ⟨ee, m, rfl, by rw [HF.out], HE.out, stp_grown HB3.out (grown_set w3 n.gn 1 _) (.inl rfl)⟩
            · rw [if_neg (fun h => he h.2)] at hF
              have HF := Lib.hid hF
              have HQ := Lib.hid hq0
              clear hF hh hq hl2n hN3 hq0
              go_wp2_with fail
              refine hlf.mono ?_
              rintro e w4 ⟨rfl, rfl⟩
              clear hlf
              go_wp2_with fail
              go_end0
              exact RedoP.same HN.out HB3.out HF.out
          · have hl2n : l2 ≠ [] := fun e => hq0 (by rw [hq, e]; rfl)
            rw [if_neg (fun h => hl2n h.1)] at hF
            have tq : ((q : Int) == 0) = false := beq_eq_false_iff_ne.2 (by omega)
            have HF := Lib.hid hF
            clear hF hh hq hl2n hN3 hq0
            go_wp2_with fail
            refine hlf.mono ?_
            rintro e w4 ⟨rfl, rfl⟩
            clear hlf
            go_wp2_with fail
            go_end0
            exact RedoP.same HN.out HB3.out HF.out
        · have t2 : (wh == 2) = false := beq_eq_false_iff_ne.2 hw2
          by_cases hw1 : wh = 1
          · subst hw1
            have HHd := Lib.hid hh
            clear hh hN3 t2 hw2 d0 d1 d2 hf1
            go_wp2_with fail
            refine (uint_calls HR3.out HBy2.out).mono ?_
            rintro e w4 ⟨rfl, ⟨A4, c4, R4⟩, G4⟩
            have HB4 := Lib.hid (HB3.out.grown G4 HB3.out.size (fun j hj => by injection hj with hj; omega))
            obtain ⟨l3, hl3⟩ : ∃ l3, l3 = l2.drop (uintR l2).2.2 := ⟨_, rfl⟩
            have hby3 : ∀ x ∈ l3, 0 ≤ x ∧ x ≤ 255 := fun x hx => HBy2.out x (List.mem_of_mem_drop (hl3 ▸ hx))
            have hll3 : l3.length ≤ l2.length := by rw [hl3, List.length_drop]; omega
            rw [← hl3] at R4
            have hcr : cellR l2 = if (uintR l2).2.1 ≠ 0 ∨ (bytesR l3).2.1 ≠ 0 ∨ l3.drop (bytesR l3).2.2 ≠ [] ∨ 4096 ≤ (uintR l2).1 ∨ 2048 < (bytesR l3).1.length then none else some ((uintR l2).1, (bytesR l3).1) := by unfold cellR; rw [← hl3]
            have HR4 := Lib.hid R4; have HBy3 := Lib.hid hby3
            obtain ⟨r1, r2, r3⟩ := Crc.uintR_spec l2
            obtain ⟨⟨aa, er3, u3⟩, hu3⟩ : ∃ r, uintR l2 = r := ⟨_, rfl⟩
            rw [hu3] at hcr r1 r2 r3 ⊢
            simp only at hcr r1 r2 r3 ⊢
            have HCR := Lib.hid hcr
            clear R4 G4 hcr hl3 hu3 hby3
            go_wp2_with fail
            refine (rbytes_calls HR4.out HBy3.out (by omega)).mono ?_
            rintro e w5 ⟨v5, rfl, row5, ⟨A6, c6, R5⟩, G5⟩
            have hB5 := HB4.out.grown G5 HB4.out.size (fun j hj => by injection hj with hj; omega)
            have HB5 := Lib.hid hB5
            obtain ⟨p1, p2⟩ := bytesR_spec l3
            have hxb : ∀ x ∈ (bytesR l3).1, 0 ≤ x ∧ x ≤ 255 := by
              intro x hx
              unfold bytesR at hx
              split at hx
              · cases hx
              · split at hx
                · cases hx
                · exact HBy3.out x (List.mem_of_mem_drop (List.mem_of_mem_take hx))
            have hcr := HCR.out
            obtain ⟨⟨x, er4, u4⟩, hu4⟩ : ∃ r, bytesR l3 = r := ⟨_, rfl⟩
            rw [hu4] at hcr p1 p2 row5 R5 hxb ⊢
            simp only at hcr p1 p2 row5 R5 hxb ⊢
            obtain ⟨A5, c5, hv5, hc5, _⟩ := row5.slice
            rw [nums_length] at hv5 hc5
            subst hv5
            obtain ⟨l4, hl4⟩ : ∃ l4, l4 = l3.drop u4 := ⟨_, rfl⟩
            rw [← hl4] at R5 hcr
            have hlf := left_calls R5
            have hb45 : w4.heap.size ≤ w5.heap.size := G5.size
            have HRow := Lib.hid row5; have HXb := Lib.hid hxb
            obtain ⟨q, hq⟩ : ∃ q, q = l4.length := ⟨_, rfl⟩
            rw [← hq] at hlf
            obtain ⟨xl, hxl⟩ : ∃ xl, xl = x.length := ⟨_, rfl⟩
            rw [← hxl] at hcr HRow ⊢
            have HXl := Lib.hid hxl; have HQ := Lib.hid hq
            have hN5 := HN.out.below HB5.out
            obtain ⟨d0, d1, d2, df⟩ := hN5.cells
            have HN5 := Lib.hid hN5
            clear R5 G5 HCR hu4 hxb row5 hl4 hq hxl df hN5 hB5
            have hl4q : l4 ≠ [] ↔ q ≠ 0 := by rw [HQ.out]; cases l4 <;> simp
            have HL4 := Lib.hid hl4q
            clear hl4q
            by_cases e3 : er3 = 0
            · subst e3
              by_cases e4 : er4 = 0
              · subst e4
                by_cases hq0 : q = 0
                · have tq : ((q : Int) != 0) = false := bne_eq_false_iff_eq.2 (by omega)
                  by_cases ha : 4096 ≤ aa
                  · have ta : decide (4096 ≤ aa) = true := decide_eq_true ha
                    rw [if_pos (.inr (.inr (.inr (.inl ha))))] at hcr
                    have HH := Lib.hid (redo_c0 (s := (ep, m.map C4.c3)) HHd.out hcr)
                    clear hcr
                    have HQ0 := Lib.hid hq0
                    clear hq0
                    go_wp2_with fail
                    refine hlf.mono ?_
                    rintro e w6 ⟨rfl, rfl⟩
                    clear hlf
                    go_wp2_with fail
                    go_end0
                    exact RedoP.same HN.out HB5.out HH.out
                  · have ta : decide (4096 ≤ aa) = false := decide_eq_false ha
                    by_cases hx : 2048 < xl
                    · have hxi : (2048 : Int) < (xl : Int) := by omega
                      rw [if_pos (.inr (.inr (.inr (.inr hx))))] at hcr
                      have HH := Lib.hid (redo_c0 (s := (ep, m.map C4.c3)) HHd.out hcr)
                      clear hcr
                      have HQ0 := Lib.hid hq0
                      clear hq0
                      go_wp2_with fail
                      refine hlf.mono ?_
                      rintro e w6 ⟨rfl, rfl⟩
                      clear hlf
                      go_wp2_with fail
                      go_end0
                      exact RedoP.same HN.out HB5.out HH.out
                    · have hxi : ¬ (2048 : Int) < (xl : Int) := by omega
                      rw [if_neg (fun e => e.elim (fun e => e rfl) (fun e => e.elim (fun e => e rfl) (fun e => e.elim (fun e => HL4.out.1 e hq0) (fun e => e.elim ha hx))))] at hcr
                      have HCR := Lib.hid hcr
                      have HQ0 := Lib.hid hq0
                      clear hcr hq0
                      by_cases hee : ee < ep
                      · have HH := Lib.hid (redo_c1 (s := (ep, m.map C4.c3)) HHd.out HCR.out hee)
                        go_wp2_with fail
                        refine hlf.mono ?_
                        rintro e w6 ⟨rfl, rfl⟩
                        clear hlf
                        go_wp2_with fail
                        go_end0
                        exact RedoP.same HN.out HB5.out HH.out
                      · have hlk := HN5.out.lookup (a := aa) (w64_of (by omega) (by omega))
                        have tee : decide (ee < ep) = false := decide_eq_false hee
                        have hzr : (0 ≤ aa ∧ aa ≤ 4095) ∧ (0 ≤ ee ∧ ee ≤ 1048576) ∧ x.length ≤ 2048 ∧ ∀ y ∈ x, 0 ≤ y ∧ y ≤ 255 := ⟨⟨r2, by omega⟩, ⟨q2, by omega⟩, by rw [← HXl.out]; omega, HXb.out⟩
                        have HZr := Lib.hid hzr
                        have hrw : Row w5 w4.heap.size 5 (sl4 ⟨aa, ee, x, A5, c5⟩) (nums .u8 x) := by have := HRow.out; rw [HXl.out] at this; exact this
                        have HRw := Lib.hid hrw
                        clear hzr hrw
                        cases hlo : look4 m aa with
                        | none =>
                          rw [hlo] at hlk
                          simp only [val4, Option.elim, zero4, Option.isSome] at hlk
                          have hF := redo_c2 (s := (ep, m.map C4.c3)) HHd.out HCR.out hee (by show look (m.map C4.c3) aa = none; rw [look_map, hlo]; rfl)
                          obtain ⟨w7, hup, hP⟩ := RedoP.put HN.out HB5.out (Nat.le_trans HB4.out.size (Nat.le_refl _)) (z := ⟨aa, ee, x, A5, c5⟩) HRw.out ((Below.refl w5.heap.size w5).alloc (Nat.le_refl _) (.cells #[.int .i64 0, .int .i64 0, .slice none 0 0] 77)) HZr.out hF
                          simp only [agg4] at hup
                          rw [← HXl.out] at hup
                          have HP := Lib.hid hP
                          have b2 := (Nd.cells (HN5.out.below ((Below.refl w5.heap.size w5).alloc (Nat.le_refl _) (.cells #[.int .i64 0, .int .i64 0, .slice none 0 0] 77)))).2.2.1
                          clear hlo hF hP
                          go_wp2_with fail
                          refine hlf.mono ?_
                          rintro e w6 ⟨rfl, rfl⟩
                          clear hlf
                          go_wp2_with fail
                          go_end0
                          exact HP.out
                        | some z =>
                          obtain ⟨ya, ye, yb, yA, yc⟩ := z
                          rw [hlo] at hlk
                          simp only [val4, Option.elim, agg4, Option.isSome] at hlk
                          have hF := redo_c3 (s := (ep, m.map C4.c3)) (d := (ya, ye, yb)) HHd.out HCR.out hee (by show look (m.map C4.c3) aa = some _; rw [look_map, hlo]; rfl)
                          simp only at hF
                          obtain ⟨yl, hyl⟩ : ∃ yl, yl = yb.length := ⟨_, rfl⟩
                          rw [← hyl] at hlk
                          have hgw := (Below.refl w5.heap.size w5).alloc (Nat.le_refl _) (.cells #[.int .i64 ya, .int .i64 ye, .slice yA yl yc] 77)
                          have b2 := (Nd.cells (HN5.out.below hgw)).2.2.1
                          by_cases hye : ye < ee
                          · rw [if_pos hye] at hF
                            obtain ⟨w7, hup, hP⟩ := RedoP.put HN.out HB5.out HB4.out.size (z := ⟨aa, ee, x, A5, c5⟩) HRw.out hgw HZr.out hF
                            simp only [agg4] at hup
                            rw [← HXl.out] at hup
                            have HP := Lib.hid hP
                            have tye : decide (ye < ee) = true := decide_eq_true hye
                            clear hlo hF hP hyl hgw
                            go_wp2_with fail
                            refine hlf.mono ?_
                            rintro e w6 ⟨rfl, rfl⟩
                            clear hlf
                            go_wp2_with fail
                            go_end0
                            exact HP.out
                          · rw [if_neg hye] at hF
                            have tye : decide (ye < ee) = false := decide_eq_false hye
                            have HF := Lib.hid hF
                            have HGW := Lib.hid (below_step HB5.out hgw)
                            clear hlo hF hyl hgw
                            go_wp2_with fail
                            refine hlf.mono ?_
                            rintro e w6 ⟨rfl, rfl⟩
                            clear hlf
                            go_wp2_with fail
                            go_end0
                            exact RedoP.same HN.out HGW.out HF.out
                · have tq : ((q : Int) != 0) = true := bne_iff_ne.2 (by omega)
                  rw [if_pos (.inr (.inr (.inl (HL4.out.2 hq0))))] at hcr
                  have HH := Lib.hid (redo_c0 (s := (ep, m.map C4.c3)) HHd.out hcr)
                  clear hcr
                  clear hq0
                  go_wp2_with fail
                  refine hlf.mono ?_
                  rintro e w6 ⟨rfl, rfl⟩
                  clear hlf
                  go_wp2_with fail
                  go_end0
                  exact RedoP.same HN.out HB5.out HH.out
              · have t4 : (er4 != 0) = true := bne_iff_ne.2 e4
                rw [if_pos (.inr (.inl e4))] at hcr
                have HH := Lib.hid (redo_c0 (s := (ep, m.map C4.c3)) HHd.out hcr)
                clear hcr
                clear e4
                go_wp2_with fail
                go_end0
                exact RedoP.same HN.out HB5.out HH.out
            · have t3 : (er3 != 0) = true := bne_iff_ne.2 e3
              rw [if_pos (.inl e3)] at hcr
              have HH := Lib.hid (redo_c0 (s := (ep, m.map C4.c3)) HHd.out hcr)
              clear hcr
              clear e3
              go_wp2_with fail
              go_end0
              exact RedoP.same HN.out HB5.out HH.out
          · have t1 : (wh == 1) = false := beq_eq_false_iff_ne.2 hw1
            have HH := Lib.hid (redo_other (s := (ep, m.map C4.c3)) hh hw2 hw1)
            clear hh hw1 hw2 hN3
            go_wp2_with fail
            go_end0
            exact RedoP.same HN.out HB3.out HH.out
    · rw [if_pos (.inr (.inl h2))] at hh
      have HH := Lib.hid (redo_none (s := (ep, m.map C4.c3)) hh)
      have t1 : (er2 != 0) = true := bne_iff_ne.2 h2
      clear hh h2
      go_wp2_with fail
      go_end0
      exact RedoP.same HN.out HB3.out HH.out
  · rw [if_pos (.inl h1)] at hh
    have HH := Lib.hid (redo_none (s := (ep, m.map C4.c3)) hh)
    have t1 : (er != 0) = true := bne_iff_ne.2 h1
    clear hh h1
    go_wp2_with fail
    go_end0
    exact RedoP.same HN.out HB3.out HH.out
end Go.Proofs.YtiinelmednbpmaaGreat.Slot
