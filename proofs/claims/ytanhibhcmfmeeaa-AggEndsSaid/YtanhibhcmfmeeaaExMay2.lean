import Derived.Test.YtanhibhcmfmeeaaExMay
import Derived.Outline
/- The walk of may, and of May. -/
namespace Go.Proofs.Ytanhibhcmfmeeaa.Ex
open Go.RowKit Go.Proofs.YtanhibhcmfmeeaaW.PrintWords Go.Proofs.Ytanhibhcmfmeeaa.Cut Go.Proofs.Ytanhibhcmfmeeaa.Fr
theorem mayL_snoc (deep : Int) : ∀ (l : List Ex) (x : Ex) (left : Int), 0 ≤ mayL l deep left → mayL (l ++ [x]) deep left = if mayF x deep (mayL l deep left) < 0 then -1 else mayF x deep (mayL l deep left)
  | [], x, left, h => by
    simp only [List.nil_append, mayL]
    rfl
  | k :: r, x, left, h => by
    simp only [List.cons_append, mayL] at h ⊢
    split
    · rename_i hn; rw [if_pos hn] at h; omega
    · rename_i hn; rw [if_neg hn] at h; exact mayL_snoc deep r x _ h
/-- Where a beginning may not be, the whole may not be. -/
theorem mayL_bad (deep : Int) : ∀ (l r : List Ex) (left : Int), mayL l deep left < 0 → 0 ≤ left → mayL (l ++ r) deep left = -1
  | [], r, left, h, h0 => by simp only [mayL] at h; omega
  | k :: l, r, left, h, h0 => by
    simp only [List.cons_append, mayL] at h ⊢
    split
    · rfl
    · rename_i hn
      rw [if_neg hn] at h
      exact mayL_bad deep l r _ h (by omega)
theorem below_alloc_of {B : Nat} {w W : World} (h : Below B w W) (o : Obj) (hB : B ≤ W.heap.size) : Below B w (W.alloc o) := h.alloc hB o
def MayP (x : Ex) : Prop := ∀ (v : Value) (w : World) (deep left : Int), ExV w x v → 0 ≤ deep → deep ≤ 16 → 0 ≤ left → left ≤ 64 →
  Calls Try.prog 30 #[v, .int .i64 deep, .int .i64 left] w fun e w' => e = .returned (.int .i64 (mayF x deep left)) ∧ Below w.heap.size w w'
set_option maxHeartbeats 4000000 in
theorem may_bad (op n : Int) (ks : List Ex) (A : Option Addr) (c : Nat) (w : World) (deep left : Int) (_hk : ks.length ≤ 4611686018427387904) (hb : badB op n ks.length deep left = true) :
    Calls Try.prog 30 #[.agg #[.int .i64 op, .int .i64 n, .slice A ks.length c], .int .i64 deep, .int .i64 left] w fun e w' => e = .returned (.int .i64 (-1)) ∧ Below w.heap.size w w' := by
  have hc := fun W => kids_calls op W
  have hb' := of_decide_eq_true hb
  clear hb
  generalize kidsOk op = o at hb' hc
  generalize kidsN op = m at hb' hc
  generalize ks.length = len at hb' _hk ⊢
  have HB := Lib.hid hb'
  clear hb'
  go_enter Try.func30, Try.ntmps30
  go_wp2_with ((with_reducible refine (hc _).mono ?_); rintro e w1 ⟨rfl, hB⟩; obtain ⟨hcl, hfr⟩ := bcell hB; have hsz := hB.size)
  all_goals first
    | (go_ret; exact ⟨rfl, below_then (below_alloc (Below.refl _ _) _) (by simp) hB⟩)
    | (exfalso; have hx := HB.out; clear HB hcl hfr hB hsz; simp_all)
set_option maxHeartbeats 4000000 in
theorem may_calls : ∀ (N : Nat) (x : Ex), SizeOf.sizeOf x ≤ N → MayP x := by
  intro N
  induction N with
  | zero => intro x hx; obtain ⟨op, n, ks⟩ := x; simp at hx
  | succ N ih =>
    intro x hx
    obtain ⟨op, n, ks⟩ := x
    intro v w deep left hv hd0 hd1 hl0 hl1
    have ih : ∀ k ∈ ks, MayP k := fun k hk => ih k (by have := size_kid (op := op) (n := n) hk; omega)
    obtain ⟨A, c, rfl, w1, w2, hlen, hK⟩ := hv.out
    simp only [Ex.op, Ex.n, Ex.kids] at w1 w2 hlen hK ⊢
    unfold mayF
    by_cases hb : badB op n ks.length deep left = true
    · rw [if_pos hb]
      exact may_bad op n ks A c w deep left hlen hb
    · rw [if_neg hb]
      have hb' : ¬ (kidsOk op = false ∨ kidsN op ≠ ks.length ∨ n ≠ 0 ∧ op ≠ 1 ∨ deep = 0 ∨ left = 0) := fun e => hb (decide_eq_true e)
      have g1 : kidsOk op = true := by
        cases hk : kidsOk op with
        | true => rfl
        | false => exact absurd (.inl hk) hb'
      have g2 : kidsN op = ks.length := Decidable.byContradiction fun e => hb' (.inr (.inl e))
      have g3 : deep ≠ 0 := fun e => hb' (.inr (.inr (.inr (.inl e))))
      have g4 : left ≠ 0 := fun e => hb' (.inr (.inr (.inr (.inr e))))
      have g5 : n = 0 ∨ ¬ n = 0 ∧ op = 1 := by
        by_cases e1 : n = 0
        · exact .inl e1
        · by_cases e2 : op = 1
          · exact .inr ⟨e1, e2⟩
          · exact absurd (.inr (.inr (.inl ⟨e1, e2⟩))) hb'
      have hc := fun W => kids_calls op W
      rw [g1, g2] at hc
      have b3 : (deep == 0) = false := beq_eq_false_iff_ne.2 g3
      have b4 : (left == 0) = false := beq_eq_false_iff_ne.2 g4
      have hx1 : (1 : Int) ≤ deep := by omega
      have hx2 : (1 : Int) ≤ left := by omega
      have HI := Lib.hid ih
      have HK := Lib.hid hK
      have hmo := mayL_le ks (deep - 1) (left - 1) (by omega)
      have hin : ∀ l, mayL l (deep - 1) (left - 1) ≤ left - 1 ∧ -1 ≤ mayL l (deep - 1) (left - 1) := fun l => mayL_le l (deep - 1) (left - 1) (by omega)
      have HM := Lib.hid hin
      obtain ⟨len, hle⟩ : ∃ len, len = ks.length := ⟨_, rfl⟩
      rw [← hle] at hc hlen ⊢
      have HL := Lib.hid hle
      clear hle hin hmo g1 g2 g3 g4 hb hb' ih hK hv hx
      rcases g5 with rfl | ⟨hn0, rfl⟩
      all_goals
        go_enter Try.func30, Try.ntmps30
        go_wp2_with ((with_reducible refine (hc _).mono ?_); rintro e w1 ⟨rfl, hB⟩; obtain ⟨hcl, hfr⟩ := bcell hB; have hsz := hB.size)
        have hB0 := below_then (below_alloc (Below.refl _ _) _) (by simp) hB
        have HB0 := Lib.hid hB0
        clear hB hcl hfr hsz hB0
        go_loopw [2, 49] (fun l i wr => ∃ k : Nat, k ≤ len ∧ i = .int .i64 k ∧ l = .int .i64 (mayL (ks.take k) (deep - 1) (left - 1)) ∧ 0 ≤ mayL (ks.take k) (deep - 1) (left - 1) ∧ Below w.heap.size w wr) (fun _ i _ => len - (intOf i).toNat)
        case atStart => exact ⟨0, Nat.zero_le _, rfl, by rw [List.take_zero]; rfl, by rw [List.take_zero]; unfold mayL; omega, HB0.out⟩
        case round =>
          obtain ⟨k, hk, rfl, rfl, hl, hB⟩ := hrel
          clear HB0
          have hl2 := (HM.out (ks.take k)).1
          by_cases hlt : k < len
          · obtain ⟨ad, x, B, c1, rfl, hx, c00, c01, c02, hE, hmem⟩ := kid_cells (KidsR.below hB ks A HK.out) k (by rw [← HL.out]; exact hlt)
            have htk : ks.take (k + 1) = ks.take k ++ [x] := by rw [List.take_add_one, hx]; rfl
            have hsn := mayL_snoc (deep - 1) (ks.take k) x (left - 1) hl
            rw [← htk] at hsn
            generalize hLk : mayL (ks.take k) (deep - 1) (left - 1) = L at *
            have hcall := HI.out x hmem _ (wr.alloc (.cells #[.int .i64 x.op, .int .i64 x.n, .slice B x.kids.length c1] 31)) (deep - 1) L (hE.below (below_alloc (Below.refl _ _) _)) (by omega) (by omega) hl (by omega)
            have hr := mayF_le x (deep - 1) L hl
            have HS := Lib.hid hsn
            have HB := Lib.hid hB
            generalize hR : mayF x (deep - 1) L = R at *
            clear hsn hB hE hmem hx htk hLk hR
            go_wp2_with ((with_reducible refine hcall.mono ?_); rintro e w2 ⟨rfl, hB2⟩)
            all_goals have hB3 := below_then (below_alloc_of HB.out _ HB.out.size) (by simp; have := HB.out.size; omega) hB2
            · have hneg : mayL ks (deep - 1) (left - 1) = -1 := by
                have h1 := mayL_bad (deep - 1) (ks.take (k + 1)) (ks.drop (k + 1)) (left - 1) (by rw [HS.out, if_pos (by omega)]; omega) (by omega)
                rwa [List.take_append_drop] at h1
              rw [hneg]
              go_ret
              exact ⟨rfl, hB3⟩
            · go_roundw
              case rel => exact ⟨k + 1, by omega, by go_num, by rw [HS.out, if_neg (by omega)], by rw [HS.out, if_neg (by omega)]; omega, hB3⟩
              case measure => simp [intOf]; omega
          · obtain rfl : k = len := by omega
            have hfull : ks.take k = ks := List.take_of_length_le (by rw [← HL.out]; omega)
            obtain ⟨L, hLe⟩ : ∃ L, L = mayL (ks.take k) (deep - 1) (left - 1) := ⟨_, rfl⟩
            have HE : Hid (L = mayL ks (deep - 1) (left - 1)) := by
              refine Lib.hid ?_
              rw [hLe, hfull]
            rw [← hLe] at hl hl2 ⊢
            clear hfull hLe
            go_wp2
            go_ret
            refine ⟨?_, hB⟩
            rw [← HE.out]
            rfl
theorem may_any (x : Ex) : MayP x := may_calls _ x (Nat.le_refl _)
set_option maxHeartbeats 1000000 in
theorem May_calls (x : Ex) (v : Value) (w : World) (hv : ExV w x v) : Calls Try.prog 20 #[v] w fun e w' => e = .returned (.bool (mayE x)) ∧ Below w.heap.size w w' := by
  have hc := fun W hW => may_any x v W 16 64 (hv.below (w' := W) hW) (by decide) (by decide) (by decide) (by decide)
  obtain ⟨A, c, rfl, _⟩ := hv.out
  have hc1 := hc (w.alloc (.cells #[.int .i64 x.op, .int .i64 x.n, .slice A x.kids.length c] 31)) (below_alloc (Below.refl _ _) _)
  have hB1 := below_alloc (Below.refl w.heap.size w) (.cells #[.int .i64 x.op, .int .i64 x.n, .slice A x.kids.length c] 31)
  unfold mayE
  generalize mayF x 16 64 = m at hc1 ⊢
  clear hc hv
  go_enter Try.func20, Try.ntmps20
  go_wp2_with ((with_reducible refine hc1.mono ?_); rintro e w2 ⟨rfl, hB2⟩)
  go_ret
  exact ⟨rfl, below_then hB1 (by simp) hB2⟩
end Go.Proofs.Ytanhibhcmfmeeaa.Ex
