import Derived.Test.YtanhibhcmfmeeaaWWords
import Derived.Test.YtanhibhcmfmeeaaFr
import Derived.Test.YtanhibhcmfmeeaaCut
import Derived.Test.YtanhibhcmfmeeaaProg
import Derived.Deep.DeepCutAuto
import Derived.Deep.CutBlock
import Derived.OwnWalk
import Derived.StillTailTactics
import Derived.RegionTactic
import Derived.BigRegion
import Derived.Lib.Hide
import Derived.Outline
import Derived.WalkLawsBesides
import Derived.Lib.MinMax
import Derived.Deep.RegionWith
import Derived.RegionDies
import Derived.Defers
import Derived.Recover
import Derived.Laws.Pointers
/- Expressions, plain: how many operands, whether one may be, its value. -/
namespace Go.Proofs.Ytanhibhcmfmeeaa.Ex
open Go.RowKit Go.Proofs.YtanhibhcmfmeeaaW.PrintWords
inductive Ex where
  | mk (op n : Int) (kids : List Ex)
def Ex.op : Ex → Int | .mk o _ _ => o
def Ex.n : Ex → Int | .mk _ n _ => n
def Ex.kids : Ex → List Ex | .mk _ _ k => k
def kidsT : List Int := [0, 0, 0, 0, 0, 0, 2, 2, 2, 2, 2, 2, 2, 3, 1, 2, 2]
def kidsN (op : Int) : Int := if 1 ≤ op ∧ op < 17 then kidsT.getD op.toNat 0 else 0
def kidsOk (op : Int) : Bool := decide (1 ≤ op ∧ op < 17)
def badB (op n : Int) (k : Nat) (deep left : Int) : Bool := decide (kidsOk op = false ∨ kidsN op ≠ k ∨ n ≠ 0 ∧ op ≠ 1 ∨ deep = 0 ∨ left = 0)
mutual
def mayF : Ex → Int → Int → Int
  | .mk op n ks, deep, left => if badB op n ks.length deep left = true then -1 else mayL ks (deep - 1) (left - 1)
def mayL : List Ex → Int → Int → Int
  | [], _, left => left
  | k :: r, deep, left => if mayF k deep left < 0 then -1 else mayL r deep (mayF k deep left)
end
mutual
theorem mayF_le : ∀ (x : Ex) (deep left : Int), 0 ≤ left → mayF x deep left ≤ left ∧ -1 ≤ mayF x deep left
  | .mk op n ks, deep, left, h => by
    unfold mayF
    split
    · omega
    · rename_i hb
      have h0 : left ≠ 0 := fun e => hb (by unfold badB; simp [e])
      have := mayL_le ks (deep - 1) (left - 1) (by omega)
      omega
theorem mayL_le : ∀ (l : List Ex) (deep left : Int), 0 ≤ left → mayL l deep left ≤ left ∧ -1 ≤ mayL l deep left
  | [], deep, left, h => by unfold mayL; omega
  | k :: r, deep, left, h => by
    unfold mayL
    have h1 := mayF_le k deep left h
    split
    · omega
    · have h2 := mayL_le r deep (mayF k deep left) (by omega)
      omega
end
/-- The value: none: a division by 0. -/
def twoF (op a b : Int) : Option Int :=
  if op = 6 then some (wrap64 (a + b)) else if op = 7 then some (wrap64 (a - b)) else if op = 8 then some (wrap64 (a * b))
  else if op = 11 then some (if a < b then 1 else 0) else if op = 12 then some (if a = b then 1 else 0)
  else if op = 15 then some (min a b) else if op = 16 then some (max a b)
  else if b = 0 then none else if op = 9 then some (wrap64 (a.tdiv b)) else some (a.tmod b)
/-- What an expression is asked of: a record's key, value, time; what was gathered. -/
structure Ask where
  key : Int
  val : Int
  time : Int
  acc : Int
def leafF (q : Ask) (op n : Int) : Int := if op = 1 then n else if op = 2 then q.key else if op = 3 then q.val else if op = 4 then q.time else q.acc
def isLeaf (op : Int) : Bool := decide (op = 1 ∨ op = 2 ∨ op = 3 ∨ op = 4 ∨ op = 5)
def valF (q : Ask) : Ex → Option Int
  | .mk op n [] => some (leafF q op n)
  | .mk _ _ [a] => (valF q a).map fun x => wrap64 (-x)
  | .mk op _ [a, b] => (valF q a).bind fun x => (valF q b).bind fun y => twoF op x y
  | .mk _ _ [a, b, c] => (valF q a).bind fun x => if x ≠ 0 then valF q b else valF q c
  | .mk _ _ (_ :: _ :: _ :: _ :: _) => none
/-- Its operations have as many operands as they should. -/
inductive Fit : Ex → Prop where
  | mk (op n : Int) (ks : List Ex) (h : kidsOk op = true) (hk : kidsN op = ks.length) (hs : ∀ k ∈ ks, Fit k) : Fit (.mk op n ks)
theorem Fit.ok {op n : Int} {ks : List Ex} (h : Fit (.mk op n ks)) : kidsOk op = true ∧ kidsN op = ks.length ∧ ∀ k ∈ ks, Fit k := by
  cases h with
  | mk _ _ _ a b c => exact ⟨a, b, c⟩
mutual
theorem fit_of : ∀ (x : Ex) (deep left : Int), 0 ≤ mayF x deep left → Fit x
  | .mk op n ks, deep, left, h => by
    unfold mayF at h
    split at h
    · omega
    · rename_i hb
      have hb' : ¬ (kidsOk op = false ∨ kidsN op ≠ ks.length ∨ n ≠ 0 ∧ op ≠ 1 ∨ deep = 0 ∨ left = 0) := fun e => hb (decide_eq_true e)
      refine .mk op n ks ?_ ?_ (fits_of ks _ _ h)
      · cases hk : kidsOk op with
        | true => rfl
        | false => exact absurd (.inl hk) hb'
      · refine Decidable.byContradiction fun e => hb' (.inr (.inl e))
theorem fits_of : ∀ (l : List Ex) (deep left : Int), 0 ≤ mayL l deep left → ∀ k ∈ l, Fit k
  | [], _, _, _, k, hk => by simp at hk
  | k :: r, deep, left, h, j, hj => by
    unfold mayL at h
    split at h
    · omega
    · rename_i h1
      rcases List.mem_cons.1 hj with e | e
      · rw [e]; exact fit_of k deep left (by omega)
      · exact fits_of r deep _ h j e
end
def mayE (x : Ex) : Bool := decide (0 ≤ mayF x 16 64)
theorem fit_may {x : Ex} (h : mayE x = true) : Fit x := fit_of x 16 64 (of_decide_eq_true h)
theorem size_kid {x : Ex} {op n : Int} {ks : List Ex} (h : x ∈ ks) : SizeOf.sizeOf x < SizeOf.sizeOf (Ex.mk op n ks) := by
  have := List.sizeOf_lt_of_mem h
  simp only [Ex.mk.sizeOf_spec]
  omega
abbrev W64 (a : Int) : Prop := (Lit.int .i64 a).wf = true
theorem W64_of {n : Int} (h1 : -9223372036854775808 ≤ n) (h2 : n ≤ 9223372036854775807) : W64 n := WalkArith.wf_i64 (by omega)
end Go.Proofs.Ytanhibhcmfmeeaa.Ex
/- Expressions in memory; kids, may, May. -/
namespace Go.Proofs.Ytanhibhcmfmeeaa.Ex
open Go.RowKit Go.Proofs.YtanhibhcmfmeeaaW.PrintWords Go.Proofs.Ytanhibhcmfmeeaa.Fr
mutual
/-- The operands of an expression, as they are read. -/
def KidsR (w : World) : List Ex → Option Addr → Prop
  | [], _ => True
  | k :: r, A => ∃ ad, A = some ad ∧ KidR w k ad ∧ KidsR w r (some (ad.add 3))
def KidR (w : World) : Ex → Addr → Prop
  | .mk op n ks, ad => w.cell? ad = some (.int .i64 op) ∧ w.cell? (ad.add 1) = some (.int .i64 n) ∧ W64 op ∧ W64 n ∧ ks.length ≤ 4611686018427387904 ∧ ∃ A c, w.cell? (ad.add 2) = some (.slice A ks.length c) ∧ KidsR w ks A
end
mutual
theorem KidsR.below {w w' : World} (hb : Below w.heap.size w w') : ∀ (l : List Ex) (A : Option Addr), KidsR w l A → KidsR w' l A
  | [], _, _ => by unfold KidsR; trivial
  | k :: r, A, h => by
    unfold KidsR at h ⊢
    obtain ⟨ad, h1, h2, h3⟩ := h
    exact ⟨ad, h1, KidR.below hb k ad h2, KidsR.below hb r _ h3⟩
theorem KidR.below {w w' : World} (hb : Below w.heap.size w w') : ∀ (x : Ex) (ad : Addr), KidR w x ad → KidR w' x ad
  | .mk op n ks, ad, h => by
    unfold KidR at h ⊢
    obtain ⟨h1, h2, h3, h4, h5, A, c, h6, h7⟩ := h
    exact ⟨pw_cell_below hb h1, pw_cell_below hb h2, h3, h4, h5, A, c, pw_cell_below hb h6, KidsR.below hb ks A h7⟩
end
theorem add_add (ad : Addr) (i j : Nat) : (ad.add i).add j = ad.add (i + j) := by
  unfold Addr.add
  by_cases h1 : i = 0 <;> by_cases h2 : j = 0 <;> simp [h1, h2, Nat.add_assoc]
theorem kidAt {w : World} : ∀ {l : List Ex} {A : Option Addr}, KidsR w l A → ∀ i x, l[i]? = some x → ∃ ad, A = some ad ∧ KidR w x (ad.add (i * 3))
  | [], _, _, i, x, hx => by simp at hx
  | k :: r, A, h, 0, x, hx => by
    unfold KidsR at h
    obtain ⟨ad, h1, h2, _⟩ := h
    obtain rfl : k = x := by simpa using hx
    refine ⟨ad, h1, ?_⟩
    rw [Nat.zero_mul]
    have : ad.add 0 = ad := by unfold Addr.add; simp
    rwa [this]
  | k :: r, A, h, i + 1, x, hx => by
    unfold KidsR at h
    obtain ⟨ad, h1, _, h3⟩ := h
    obtain ⟨ad', h4, h5⟩ := kidAt h3 i x (by simpa using hx)
    injection h4 with h4
    subst h4
    refine ⟨ad, h1, ?_⟩
    rwa [add_add, show 3 + i * 3 = (i + 1) * 3 by omega] at h5
/-- An expression that is handed over by value. -/
structure ExV (w : World) (x : Ex) (v : Value) : Prop where
  out : ∃ A c, v = .agg #[.int .i64 x.op, .int .i64 x.n, .slice A x.kids.length c] ∧ W64 x.op ∧ W64 x.n ∧ x.kids.length ≤ 4611686018427387904 ∧ KidsR w x.kids A
theorem ExV.below {w w' : World} {x : Ex} {v : Value} (h : ExV w x v) (hb : Below w.heap.size w w') : ExV w' x v := by
  obtain ⟨A, c, h1, h2, h3, h4, h5⟩ := h.out
  exact ⟨A, c, h1, h2, h3, h4, h5.below hb⟩
theorem add_field' (ad : Addr) (k j : Nat) (hj : 0 < j) : (ad.add k).add j = ⟨(ad.add k).block, (ad.add k).off + j, none⟩ := by
  conv => lhs; unfold Addr.add
  rw [if_neg (by omega)]
  rfl
/-- An operand, its cells as the walk spells them. -/
theorem kid_cells {w : World} {l : List Ex} {A : Option Addr} (h : KidsR w l A) (i : Nat) (hi : i < l.length) : ∃ ad x B c, A = some ad ∧ l[i]? = some x ∧ w.cell? (ad.add (i * 3)) = some (.int .i64 x.op) ∧ w.cell? ⟨(ad.add (i * 3)).block, (ad.add (i * 3)).off + 1, none⟩ = some (.int .i64 x.n) ∧
    w.cell? ⟨(ad.add (i * 3)).block, (ad.add (i * 3)).off + 2, none⟩ = some (.slice B x.kids.length c) ∧ ExV w x (.agg #[.int .i64 x.op, .int .i64 x.n, .slice B x.kids.length c]) ∧ x ∈ l := by
  obtain ⟨ad, hA, hk⟩ := kidAt h i _ (List.getElem?_eq_getElem hi)
  generalize hx : l[i] = x at hk
  obtain ⟨op, n, ks⟩ := x
  unfold KidR at hk
  obtain ⟨h1, h2, h3, h4, h5, B, c, h6, h7⟩ := hk
  refine ⟨ad, .mk op n ks, B, c, hA, by rw [List.getElem?_eq_getElem hi, hx], h1, ?_, ?_, ⟨B, c, rfl, h3, h4, h5, h7⟩, by rw [← hx]; exact List.getElem_mem hi⟩
  · rw [← add_field' _ _ _ (by decide)]; exact h2
  · rw [← add_field' _ _ _ (by decide)]; exact h6
set_option maxHeartbeats 4000000 in
theorem kids_calls (op : Int) (w : World) : Calls Try.prog 48 #[.int .i64 op] w fun e w' => e = .returned (.tuple #[.int .i64 (kidsN op), .bool (kidsOk op)]) ∧ Below w.heap.size w w' := by
  by_cases h : 1 ≤ op ∧ op < 17
  · have e2 : kidsOk op = true := decide_eq_true h
    obtain ⟨h1, h2⟩ := h
    have hc : ∀ W : World, (W.alloc (.cells #[.int .i64 0, .int .i64 0, .int .i64 0, .int .i64 0, .int .i64 0, .int .i64 0, .int .i64 2, .int .i64 2, .int .i64 2, .int .i64 2, .int .i64 2, .int .i64 2, .int .i64 2, .int .i64 3, .int .i64 1, .int .i64 2, .int .i64 2] 134)).cell? ⟨W.heap.size, op.toNat, none⟩ = some (.int .i64 (kidsN op)) := fun W => by
      have hk : kidsN op = kidsT.getD op.toNat 0 := if_pos ⟨h1, h2⟩
      have hh := (Go.MapKept.heap_alloc W (.cells #[.int .i64 0, .int .i64 0, .int .i64 0, .int .i64 0, .int .i64 0, .int .i64 0, .int .i64 2, .int .i64 2, .int .i64 2, .int .i64 2, .int .i64 2, .int .i64 2, .int .i64 2, .int .i64 3, .int .i64 1, .int .i64 2, .int .i64 2] 134)).1
      rw [hk]
      simp only [World.cell?, hh]
      have : op.toNat < 17 := by omega
      generalize op.toNat = k at this
      have : k = 0 ∨ k = 1 ∨ k = 2 ∨ k = 3 ∨ k = 4 ∨ k = 5 ∨ k = 6 ∨ k = 7 ∨ k = 8 ∨ k = 9 ∨ k = 10 ∨ k = 11 ∨ k = 12 ∨ k = 13 ∨ k = 14 ∨ k = 15 ∨ k = 16 := by omega
      rcases this with rfl | rfl | rfl | rfl | rfl | rfl | rfl | rfl | rfl | rfl | rfl | rfl | rfl | rfl | rfl | rfl | rfl <;> rfl
    rw [e2]
    clear e2
    generalize kidsN op = m at hc ⊢
    have h3 : (0 : Int) ≤ op := by omega
    go_enter Try.func48, Try.ntmps48
    go_wp2
    go_ret2
    exact ⟨rfl, below_alloc (Below.refl _ _) _⟩
  · have e1 : kidsN op = 0 := if_neg h
    have e2 : kidsOk op = false := decide_eq_false h
    rw [e1, e2]
    by_cases h1 : op < 1
    · clear h e1 e2
      go_enter Try.func48, Try.ntmps48
      go_wp2
      go_ret2
      exact ⟨rfl, below_alloc (Below.refl _ _) _⟩
    · have h2 : 17 ≤ op := by omega
      clear h e1 e2
      go_enter Try.func48, Try.ntmps48
      go_wp2
      go_ret2
      exact ⟨rfl, below_alloc (Below.refl _ _) _⟩
end Go.Proofs.Ytanhibhcmfmeeaa.Ex
/- The walk of may, and of May. -/
namespace Go.Proofs.Ytanhibhcmfmeeaa.Ex
open Go.RowKit Go.Proofs.YtanhibhcmfmeeaaW.PrintWords Go.Proofs.Ytanhibhcmfmeeaa.Cut Go.Proofs.Ytanhibhcmfmeeaa.Fr
theorem mayL_snoc (deep : Int) : ∀ (l : List Ex) (x : Ex) (left : Int), 0 ≤ mayL l deep left → mayL (l ++ [x]) deep left = if mayF x deep (mayL l deep left) < 0 then -1 else mayF x deep (mayL l deep left)
  | [], x, left, h => by
    simp only [List.nil_append, mayL]
    rfl
  | k :: r, x, left, h => by
    simp only [List.cons_append, mayL] at h ⊢
    split
    · rename_i hn; rw [if_pos hn] at h; omega
    · rename_i hn; rw [if_neg hn] at h; exact mayL_snoc deep r x _ h
/-- Where a beginning may not be, the whole may not be. -/
theorem mayL_bad (deep : Int) : ∀ (l r : List Ex) (left : Int), mayL l deep left < 0 → 0 ≤ left → mayL (l ++ r) deep left = -1
  | [], r, left, h, h0 => by simp only [mayL] at h; omega
  | k :: l, r, left, h, h0 => by
    simp only [List.cons_append, mayL] at h ⊢
    split
    · rfl
    · rename_i hn
      rw [if_neg hn] at h
      exact mayL_bad deep l r _ h (by omega)
theorem below_alloc_of {B : Nat} {w W : World} (h : Below B w W) (o : Obj) (hB : B ≤ W.heap.size) : Below B w (W.alloc o) := h.alloc hB o
def MayP (x : Ex) : Prop := ∀ (v : Value) (w : World) (deep left : Int), ExV w x v → 0 ≤ deep → deep ≤ 16 → 0 ≤ left → left ≤ 64 →
  Calls Try.prog 30 #[v, .int .i64 deep, .int .i64 left] w fun e w' => e = .returned (.int .i64 (mayF x deep left)) ∧ Below w.heap.size w w'
set_option maxHeartbeats 4000000 in
theorem may_bad (op n : Int) (ks : List Ex) (A : Option Addr) (c : Nat) (w : World) (deep left : Int) (_hk : ks.length ≤ 4611686018427387904) (hb : badB op n ks.length deep left = true) :
    Calls Try.prog 30 #[.agg #[.int .i64 op, .int .i64 n, .slice A ks.length c], .int .i64 deep, .int .i64 left] w fun e w' => e = .returned (.int .i64 (-1)) ∧ Below w.heap.size w w' := by
  have hc := fun W => kids_calls op W
  have hb' := of_decide_eq_true hb
  clear hb
  generalize kidsOk op = o at hb' hc
  generalize kidsN op = m at hb' hc
  generalize ks.length = len at hb' _hk ⊢
  have HB := Lib.hid hb'
  clear hb'
  go_enter Try.func30, Try.ntmps30
  go_wp2_with ((with_reducible refine (hc _).mono ?_); rintro e w1 ⟨rfl, hB⟩; obtain ⟨hcl, hfr⟩ := bcell hB; have hsz := hB.size)
  all_goals first
    | (go_ret; exact ⟨rfl, below_then (below_alloc (Below.refl _ _) _) (by simp) hB⟩)
    | (exfalso; have hx := HB.out; clear HB hcl hfr hB hsz; simp_all)
set_option maxHeartbeats 4000000 in
theorem may_calls : ∀ (N : Nat) (x : Ex), SizeOf.sizeOf x ≤ N → MayP x := by
  intro N
  induction N with
  | zero => intro x hx; obtain ⟨op, n, ks⟩ := x; simp at hx
  | succ N ih =>
    intro x hx
    obtain ⟨op, n, ks⟩ := x
    intro v w deep left hv hd0 hd1 hl0 hl1
    have ih : ∀ k ∈ ks, MayP k := fun k hk => ih k (by have := size_kid (op := op) (n := n) hk; omega)
    obtain ⟨A, c, rfl, w1, w2, hlen, hK⟩ := hv.out
    simp only [Ex.op, Ex.n, Ex.kids] at w1 w2 hlen hK ⊢
    unfold mayF
    by_cases hb : badB op n ks.length deep left = true
    · rw [if_pos hb]
      exact may_bad op n ks A c w deep left hlen hb
    · rw [if_neg hb]
      have hb' : ¬ (kidsOk op = false ∨ kidsN op ≠ ks.length ∨ n ≠ 0 ∧ op ≠ 1 ∨ deep = 0 ∨ left = 0) := fun e => hb (decide_eq_true e)
      have g1 : kidsOk op = true := by
        cases hk : kidsOk op with
        | true => rfl
        | false => exact absurd (.inl hk) hb'
      have g2 : kidsN op = ks.length := Decidable.byContradiction fun e => hb' (.inr (.inl e))
      have g3 : deep ≠ 0 := fun e => hb' (.inr (.inr (.inr (.inl e))))
      have g4 : left ≠ 0 := fun e => hb' (.inr (.inr (.inr (.inr e))))
      have g5 : n = 0 ∨ ¬ n = 0 ∧ op = 1 := by
        by_cases e1 : n = 0
        · exact .inl e1
        · by_cases e2 : op = 1
          · exact .inr ⟨e1, e2⟩
          · exact absurd (.inr (.inr (.inl ⟨e1, e2⟩))) hb'
      have hc := fun W => kids_calls op W
      rw [g1, g2] at hc
      have b3 : (deep == 0) = false := beq_eq_false_iff_ne.2 g3
      have b4 : (left == 0) = false := beq_eq_false_iff_ne.2 g4
      have hx1 : (1 : Int) ≤ deep := by omega
      have hx2 : (1 : Int) ≤ left := by omega
      have HI := Lib.hid ih
      have HK := Lib.hid hK
      have hmo := mayL_le ks (deep - 1) (left - 1) (by omega)
      have hin : ∀ l, mayL l (deep - 1) (left - 1) ≤ left - 1 ∧ -1 ≤ mayL l (deep - 1) (left - 1) := fun l => mayL_le l (deep - 1) (left - 1) (by omega)
      have HM := Lib.hid hin
      obtain ⟨len, hle⟩ : ∃ len, len = ks.length := ⟨_, rfl⟩
      rw [← hle] at hc hlen ⊢
      have HL := Lib.hid hle
      clear hle hin hmo g1 g2 g3 g4 hb hb' ih hK hv hx
      rcases g5 with rfl | ⟨hn0, rfl⟩
      all_goals
        go_enter Try.func30, Try.ntmps30
        go_wp2_with ((with_reducible refine (hc _).mono ?_); rintro e w1 ⟨rfl, hB⟩; obtain ⟨hcl, hfr⟩ := bcell hB; have hsz := hB.size)
        have hB0 := below_then (below_alloc (Below.refl _ _) _) (by simp) hB
        have HB0 := Lib.hid hB0
        clear hB hcl hfr hsz hB0
        go_loopw [2, 49] (fun l i wr => ∃ k : Nat, k ≤ len ∧ i = .int .i64 k ∧ l = .int .i64 (mayL (ks.take k) (deep - 1) (left - 1)) ∧ 0 ≤ mayL (ks.take k) (deep - 1) (left - 1) ∧ Below w.heap.size w wr) (fun _ i _ => len - (intOf i).toNat)
        case atStart => exact ⟨0, Nat.zero_le _, rfl, by rw [List.take_zero]; rfl, by rw [List.take_zero]; unfold mayL; omega, HB0.out⟩
        case round =>
          obtain ⟨k, hk, rfl, rfl, hl, hB⟩ := hrel
          clear HB0
          have hl2 := (HM.out (ks.take k)).1
          by_cases hlt : k < len
          · obtain ⟨ad, x, B, c1, rfl, hx, c00, c01, c02, hE, hmem⟩ := kid_cells (KidsR.below hB ks A HK.out) k (by rw [← HL.out]; exact hlt)
            have htk : ks.take (k + 1) = ks.take k ++ [x] := by rw [List.take_add_one, hx]; rfl
            have hsn := mayL_snoc (deep - 1) (ks.take k) x (left - 1) hl
            rw [← htk] at hsn
            generalize hLk : mayL (ks.take k) (deep - 1) (left - 1) = L at *
            have hcall := HI.out x hmem _ (wr.alloc (.cells #[.int .i64 x.op, .int .i64 x.n, .slice B x.kids.length c1] 31)) (deep - 1) L (hE.below (below_alloc (Below.refl _ _) _)) (by omega) (by omega) hl (by omega)
            have hr := mayF_le x (deep - 1) L hl
            have HS := Lib.hid hsn
            have HB := Lib.hid hB
            generalize hR : mayF x (deep - 1) L = R at *
            clear hsn hB hE hmem hx htk hLk hR
            go_wp2_with ((with_reducible refine hcall.mono ?_); rintro e w2 ⟨rfl, hB2⟩)
            all_goals have hB3 := below_then (below_alloc_of HB.out _ HB.out.size) (by simp; have := HB.out.size; omega) hB2
            · have hneg : mayL ks (deep - 1) (left - 1) = -1 := by
                have h1 := mayL_bad (deep - 1) (ks.take (k + 1)) (ks.drop (k + 1)) (left - 1) (by rw [HS.out, if_pos (by omega)]; omega) (by omega)
                rwa [List.take_append_drop] at h1
              rw [hneg]
              go_ret
              exact ⟨rfl, hB3⟩
            · go_roundw
              case rel => exact ⟨k + 1, by omega, by go_num, by rw [HS.out, if_neg (by omega)], by rw [HS.out, if_neg (by omega)]; omega, hB3⟩
              case measure => simp [intOf]; omega
          · obtain rfl : k = len := by omega
            have hfull : ks.take k = ks := List.take_of_length_le (by rw [← HL.out]; omega)
            obtain ⟨L, hLe⟩ : ∃ L, L = mayL (ks.take k) (deep - 1) (left - 1) := ⟨_, rfl⟩
            have HE : Hid (L = mayL ks (deep - 1) (left - 1)) := by
              refine Lib.hid ?_
              rw [hLe, hfull]
            rw [← hLe] at hl hl2 ⊢
            clear hfull hLe
            go_wp2
            go_ret
            refine ⟨?_, hB⟩
            rw [← HE.out]
            rfl
theorem may_any (x : Ex) : MayP x := may_calls _ x (Nat.le_refl _)
set_option maxHeartbeats 1000000 in
theorem May_calls (x : Ex) (v : Value) (w : World) (hv : ExV w x v) : Calls Try.prog 20 #[v] w fun e w' => e = .returned (.bool (mayE x)) ∧ Below w.heap.size w w' := by
  have hc := fun W hW => may_any x v W 16 64 (hv.below (w' := W) hW) (by decide) (by decide) (by decide) (by decide)
  obtain ⟨A, c, rfl, _⟩ := hv.out
  have hc1 := hc (w.alloc (.cells #[.int .i64 x.op, .int .i64 x.n, .slice A x.kids.length c] 31)) (below_alloc (Below.refl _ _) _)
  have hB1 := below_alloc (Below.refl w.heap.size w) (.cells #[.int .i64 x.op, .int .i64 x.n, .slice A x.kids.length c] 31)
  unfold mayE
  generalize mayF x 16 64 = m at hc1 ⊢
  clear hc hv
  go_enter Try.func20, Try.ntmps20
  go_wp2_with ((with_reducible refine hc1.mono ?_); rintro e w2 ⟨rfl, hB2⟩)
  go_ret
  exact ⟨rfl, below_then hB1 (by simp) hB2⟩
end Go.Proofs.Ytanhibhcmfmeeaa.Ex
/- The walks of one, two, value. -/
namespace Go.Proofs.Ytanhibhcmfmeeaa.Ex
open Go.RowKit Go.Proofs.YtanhibhcmfmeeaaW.PrintWords Go.Proofs.Ytanhibhcmfmeeaa.Cut Go.Proofs.Ytanhibhcmfmeeaa.Fr
def divPanic : List PanicEntry := [{ v := .iface 25 (.int .i64 10), recovered := false }]
def endV : Option Int → Ending
  | some v => .returned (.int .i64 v)
  | none => .panicked divPanic
set_option maxHeartbeats 1000000 in
theorem one_calls (b : Bool) (w : World) : Calls Try.prog 65 #[.bool b] w fun e w' => e = .returned (.int .i64 (if b = true then 1 else 0)) ∧ w' = w := by
  cases b
  all_goals
    go_enter Try.func65, Try.ntmps65
    go_wp2
    go_ret
    exact ⟨rfl, rfl⟩
def isTwo (op : Int) : Prop := op = 6 ∨ op = 7 ∨ op = 8 ∨ op = 9 ∨ op = 10 ∨ op = 11 ∨ op = 12 ∨ op = 15 ∨ op = 16
set_option maxHeartbeats 4000000 in
theorem two_calls (op a b : Int) (h : isTwo op) (w : World) : Calls Try.prog 49 #[.int .i64 op, .int .i64 a, .int .i64 b] w fun e w' => e = endV (twoF op a b) ∧ w' = w := by
  have h1 := fun c W => one_calls c W
  rcases h with rfl | rfl | rfl | rfl | rfl | rfl | rfl | rfl | rfl
  · go_enter Try.func49, Try.ntmps49
    go_wp2
    go_ret
    exact ⟨rfl, rfl⟩
  · go_enter Try.func49, Try.ntmps49
    go_wp2
    go_ret
    exact ⟨rfl, rfl⟩
  · go_enter Try.func49, Try.ntmps49
    go_wp2
    go_ret
    exact ⟨rfl, rfl⟩
  · by_cases hb : b = 0
    · subst hb
      go_enter Try.func49, Try.ntmps49
      go_wp2
      exact ⟨rfl, rfl, rfl⟩
    · have e : twoF 9 a b = some (wrap64 (a.tdiv b)) := by
        unfold twoF; simp [hb]
      rw [e]
      go_enter Try.func49, Try.ntmps49
      go_wp2
      go_ret
      exact ⟨rfl, rfl⟩
  · by_cases hb : b = 0
    · subst hb
      go_enter Try.func49, Try.ntmps49
      go_wp2
      exact ⟨rfl, rfl, rfl⟩
    · have e : twoF 10 a b = some (a.tmod b) := by
        unfold twoF; simp [hb]
      rw [e]
      go_enter Try.func49, Try.ntmps49
      go_wp2
      go_ret
      exact ⟨rfl, rfl⟩
  · go_enter Try.func49, Try.ntmps49
    go_wp2_with (go_at_call 65; refine (h1 _ _).mono ?_; rintro e w1 ⟨rfl, rfl⟩)
    all_goals
      have hx : a < b ∨ ¬ a < b := by omega
      go_ret
      exact ⟨by simp [twoF, endV, *], rfl⟩
  · go_enter Try.func49, Try.ntmps49
    go_wp2_with (go_at_call 65; refine (h1 _ _).mono ?_; rintro e w1 ⟨rfl, rfl⟩)
    all_goals
      have hx : a = b ∨ ¬ a = b := by omega
      go_ret
      exact ⟨by simp [twoF, endV, *], rfl⟩
  · go_enter Try.func49, Try.ntmps49
    go_wp2
    go_ret
    exact ⟨rfl, rfl⟩
  · go_enter Try.func49, Try.ntmps49
    go_wp2
    go_ret
    exact ⟨rfl, rfl⟩
def askV (q : Ask) : Value := .agg #[.int .i64 q.key, .int .i64 q.val, .int .i64 q.time, .int .i64 q.acc]
def ValP (q : Ask) (x : Ex) : Prop := ∀ (v : Value) (w : World), ExV w x v → Calls Try.prog 35 #[askV q, v] w fun e w' => e = endV (valF q x) ∧ Below w.heap.size w w'
set_option maxHeartbeats 4000000 in
theorem val_leaf (q : Ask) (op n : Int) (A : Option Addr) (c : Nat) (w : World) (h : op = 1 ∨ op = 2 ∨ op = 3 ∨ op = 4 ∨ op = 5) : Calls Try.prog 35 #[askV q, .agg #[.int .i64 op, .int .i64 n, .slice A 0 c]] w fun e w' => e = .returned (.int .i64 (leafF q op n)) ∧ Below w.heap.size w w' := by
  unfold askV
  rcases h with rfl | rfl | rfl | rfl | rfl
  all_goals
    go_enter Try.func35, Try.ntmps35
    go_wp2
    go_ret
    exact ⟨rfl, below_alloc (below_alloc (Below.refl _ _) _) _⟩
theorem kid_val {w : World} {q : Ask} {ks : List Ex} {A : Option Addr} (h : KidsR w ks A) (i : Nat) (x : Ex) (hx : ks[i]? = some x) (hv : ValP q x) : ∃ ad o m B k c, A = some ad ∧ ∀ p, ad.add (i * 3) = p → ∀ W, Below w.heap.size w W →
    W.cell? p = some (.int .i64 o) ∧ W.cell? ⟨p.block, p.off + 1, none⟩ = some (.int .i64 m) ∧ W.cell? ⟨p.block, p.off + 2, none⟩ = some (.slice B k c) ∧
    Calls Try.prog 35 #[.agg #[.int .i64 q.key, .int .i64 q.val, .int .i64 q.time, .int .i64 q.acc], .agg #[.int .i64 o, .int .i64 m, .slice B k c]] W fun e w' => e = endV (valF q x) ∧ Below W.heap.size W w' := by
  have hi := (List.getElem?_eq_some_iff.1 hx).1
  obtain ⟨ad, x', B, c, hA, hx', e0, e1, e2, e3, _⟩ := kid_cells h i hi
  rw [hx] at hx'
  obtain rfl := Option.some.inj hx'
  refine ⟨ad, x.op, x.n, B, x.kids.length, c, hA, ?_⟩
  rintro p rfl W hW
  exact ⟨pw_cell_below hW e0, pw_cell_below hW e1, pw_cell_below hW e2, hv _ W (e3.below hW)⟩
theorem cell_of {w : World} {b : Nat} {cs : Array Value} {t : TypeId} {fr : Nat × Nat} (h : w.heap[b]? = some (.cells cs t fr)) (j : Nat) : w.cell? ⟨b, j, none⟩ = cs[j]? := by
  simp [World.cell?, h]
/-- The two boxes: what is asked, the expression. -/
structure Bx (w W : World) (q : Ask) (e f : Int) (A : Option Addr) (k m : Nat) : Prop where
  below : Below w.heap.size w W
  c : W.cell? ⟨w.heap.size, 0, none⟩ = some (.int .i64 q.key) ∧ W.cell? ⟨w.heap.size, 1, none⟩ = some (.int .i64 q.val) ∧ W.cell? ⟨w.heap.size, 2, none⟩ = some (.int .i64 q.time) ∧ W.cell? ⟨w.heap.size, 3, none⟩ = some (.int .i64 q.acc)
  e : W.cell? ⟨w.heap.size + 1, 0, none⟩ = some (.int .i64 e) ∧ W.cell? ⟨w.heap.size + 1, 1, none⟩ = some (.int .i64 f) ∧ W.cell? ⟨w.heap.size + 1, 2, none⟩ = some (.slice A k m)
theorem Bx.step {w W W' : World} {q : Ask} {e f : Int} {A : Option Addr} {k m : Nat} (h : Bx w W q e f A k m) (hb : Below W.drew.heap.size W.drew W') : Bx w W' q e f A k m :=
  have t : ∀ {a : Addr} {v : Value}, W.cell? a = some v → W'.cell? a = some v := fun {a v} hc => pw_cell_below hb (show W.drew.cell? a = some v from hc)
  ⟨below_then (below_drew h.below) h.below.size hb, ⟨t h.c.1, t h.c.2.1, t h.c.2.2.1, t h.c.2.2.2⟩, ⟨t h.e.1, t h.e.2.1, t h.e.2.2⟩⟩
theorem boxes (w : World) (q : Ask) (e f : Int) (A : Option Addr) (k m : Nat) : ∃ W, W = (w.alloc (.cells #[.int .i64 q.key, .int .i64 q.val, .int .i64 q.time, .int .i64 q.acc] 86)).alloc (.cells #[.int .i64 e, .int .i64 f, .slice A k m] 31) ∧ Bx w W q e f A k m := by
  refine ⟨_, rfl, below_alloc (below_alloc (Below.refl _ _) _) _, ?_, ?_⟩
  · have h1 : ((w.alloc (.cells #[.int .i64 q.key, .int .i64 q.val, .int .i64 q.time, .int .i64 q.acc] 86)).alloc (.cells #[.int .i64 e, .int .i64 f, .slice A k m] 31)).heap[w.heap.size]? = some (.cells #[.int .i64 q.key, .int .i64 q.val, .int .i64 q.time, .int .i64 q.acc] 86 (0, 0)) :=
      (heap_alloc_old _ _ (by simp)).trans (Go.MapKept.heap_alloc w _).1
    exact ⟨(blk_cell h1 0).trans rfl, (blk_cell h1 1).trans rfl, (blk_cell h1 2).trans rfl, (blk_cell h1 3).trans rfl⟩
  · have h2 : ((w.alloc (.cells #[.int .i64 q.key, .int .i64 q.val, .int .i64 q.time, .int .i64 q.acc] 86)).alloc (.cells #[.int .i64 e, .int .i64 f, .slice A k m] 31)).heap[w.heap.size + 1]? = some (.cells #[.int .i64 e, .int .i64 f, .slice A k m] 31 (0, 0)) := by
      have h := (Go.MapKept.heap_alloc (w.alloc (.cells #[.int .i64 q.key, .int .i64 q.val, .int .i64 q.time, .int .i64 q.acc] 86)) (.cells #[.int .i64 e, .int .i64 f, .slice A k m] 31)).1
      simpa using h
    exact ⟨(blk_cell h2 0).trans rfl, (blk_cell h2 1).trans rfl, (blk_cell h2 2).trans rfl⟩
theorem add0 (ad : Addr) : ad.add (0 * 3) = ad := by simp [Addr.add]
set_option maxHeartbeats 4000000 in
theorem val_neg (q : Ask) (n : Int) (a : Ex) (ha : ValP q a) (v : Value) (w : World) (hv : ExV w (.mk 14 n [a]) v) : Calls Try.prog 35 #[askV q, v] w fun e w' => e = endV ((valF q a).map fun x => wrap64 (-x)) ∧ Below w.heap.size w w' := by
  obtain ⟨A, c, rfl, w1, w2, hlen, hK⟩ := hv.out
  simp only [Ex.op, Ex.n, Ex.kids, List.length_cons, List.length_nil, Nat.zero_add] at w1 w2 hK ⊢
  obtain ⟨ad, o, m, B, k, c1, rfl, hk⟩ := kid_val hK 0 a rfl ha
  unfold askV
  obtain ⟨W, hW, hX⟩ := boxes w q 14 n (some ad) 1 c
  obtain ⟨c0, c1', c2, c3⟩ := hX.c
  obtain ⟨e0, e1, e2⟩ := hX.e
  have HW := Lib.hid hW; have HX := Lib.hid hX
  obtain ⟨k0, k1, k2, hcd⟩ := hk _ (add0 ad) W.drew (below_drew hX.below)
  clear hk hv hK ha hW hX
  cases hva : valF q a with
  | none =>
    simp only [hva, endV] at hcd ⊢
    go_enter Try.func35, Try.ntmps35
    go_wp2_with fail
    rw [← HW.out]
    go_region_dies
    all_goals
      go_wp2_with ((with_reducible refine hcd.mono ?_); rintro e w4 ⟨rfl, hB4⟩)
      exact ⟨rfl, rfl, (HX.out.step hB4).below⟩
  | some x =>
    simp only [hva, endV, Option.map_some] at hcd ⊢
    go_enter Try.func35, Try.ntmps35
    go_wp2_with fail
    rw [← HW.out]
    go_region_with ((with_reducible refine hcd.mono ?_); rintro e w4 ⟨rfl, hB4⟩; have HB4 := Lib.hid hB4; clear hB4)
    all_goals
      go_wp2
      go_ret
      refine ⟨?_, (HX.out.step HB4.out).below⟩
      simp [Act.put, wrap64, IntKind.wrap_i64]
end Go.Proofs.Ytanhibhcmfmeeaa.Ex
/- The walk of value at two operands, and at three. -/
namespace Go.Proofs.Ytanhibhcmfmeeaa.Ex
open Go.RowKit Go.Proofs.YtanhibhcmfmeeaaW.PrintWords Go.Proofs.Ytanhibhcmfmeeaa.Cut Go.Proofs.Ytanhibhcmfmeeaa.Fr
set_option maxHeartbeats 8000000 in
theorem val_two (q : Ask) (op n : Int) (hop : isTwo op) (a b : Ex) (ha : ValP q a) (hb : ValP q b) (v : Value) (w : World) (hv : ExV w (.mk op n [a, b]) v) : Calls Try.prog 35 #[askV q, v] w fun e w' => e = endV ((valF q a).bind fun x => (valF q b).bind fun y => twoF op x y) ∧ Below w.heap.size w w' := by
  obtain ⟨A, c, rfl, w1, w2, hlen, hK⟩ := hv.out
  simp only [Ex.op, Ex.n, Ex.kids, List.length_cons, List.length_nil, Nat.zero_add] at w1 w2 hK ⊢
  obtain ⟨ad, o, m, B, k, c1, rfl, hk⟩ := kid_val hK 0 a rfl ha
  obtain ⟨ad', o', m', B', k', c1', hA', hk'⟩ := kid_val hK 1 b rfl hb
  obtain rfl := Option.some.inj hA'
  replace hk' := hk' ⟨ad.block, ad.off + 3, none⟩ rfl
  replace hk := hk _ (add0 ad)
  have h2 := fun x y W => two_calls op x y hop W
  unfold askV
  obtain ⟨W, hW, hX⟩ := boxes w q op n (some ad) 2 c
  obtain ⟨c0, c1', c2, c3⟩ := hX.c
  obtain ⟨e0, e1, e2⟩ := hX.e
  have HW := Lib.hid hW; have HX := Lib.hid hX; have HK := Lib.hid hk'; have HO := Lib.hid hop
  obtain ⟨k0, k1, k2, hcd⟩ := hk W.drew (below_drew hX.below)
  have n1 : (op == 1) = false := by unfold isTwo at hop; exact beq_eq_false_iff_ne.2 (by omega)
  have n2 : (op == 2) = false := by unfold isTwo at hop; exact beq_eq_false_iff_ne.2 (by omega)
  have n3 : (op == 3) = false := by unfold isTwo at hop; exact beq_eq_false_iff_ne.2 (by omega)
  have n4 : (op == 4) = false := by unfold isTwo at hop; exact beq_eq_false_iff_ne.2 (by omega)
  have n5 : (op == 5) = false := by unfold isTwo at hop; exact beq_eq_false_iff_ne.2 (by omega)
  have n14 : (op == 14) = false := by unfold isTwo at hop; exact beq_eq_false_iff_ne.2 (by omega)
  have n13 : (op == 13) = false := by unfold isTwo at hop; exact beq_eq_false_iff_ne.2 (by omega)
  clear hk hv hK ha hb hW hX hk' hop hlen w1 w2
  cases hva : valF q a with
  | none =>
    simp only [hva, endV] at hcd
    simp only [Option.bind_none]
    go_enter Try.func35, Try.ntmps35
    go_wp2_with fail
    rw [← HW.out]
    go_region_dies
    all_goals
      go_wp2_with ((with_reducible refine hcd.mono ?_); rintro e w4 ⟨rfl, hB4⟩)
      exact ⟨rfl, rfl, (HX.out.step hB4).below⟩
  | some x =>
    simp only [hva, endV] at hcd
    simp only [Option.bind_some]
    go_enter Try.func35, Try.ntmps35
    go_upto_region 18 with fail
    rw [← HW.out]
    go_cut [5] (fun u wx => u = .int .i64 x ∧ Bx w wx q op n (some ad) 2 c)
    case first =>
      go_region_with ((with_reducible refine hcd.mono ?_); rintro e w4 ⟨rfl, hB4⟩; have HB4 := Lib.hid hB4; clear hB4)
      all_goals
        go_wp2_with fail
        go_meet
        case rel => exact ⟨rfl, HX.out.step HB4.out⟩
    case rest =>
      clear c0 c1' c2 c3 e0 e1 e2 k0 k1 k2 hcd HX HW
      obtain ⟨rfl, hX⟩ := hcut
      rename World => wx
      obtain ⟨c0, c1', c2, c3⟩ := hX.c
      obtain ⟨e0, e1, e2⟩ := hX.e
      obtain ⟨k0, k1, k2, hcd⟩ := HK.out wx.drew (below_drew hX.below)
      have HX := Lib.hid hX
      clear hX HK hA'
      cases hvb : valF q b with
      | none =>
        simp only [hvb, endV] at hcd
        go_wp2_with fail
        go_region_dies
        all_goals
          go_wp2_with ((with_reducible refine hcd.mono ?_); rintro e w4 ⟨rfl, hB4⟩)
          exact ⟨rfl, by simp [hvb, endV], (HX.out.step hB4).below⟩
      | some y =>
        simp only [hvb, endV] at hcd
        have h2 := h2 x y
        cases ht : twoF op x y with
        | none =>
          simp only [ht, endV] at h2
          go_upto_region 19 with fail
          go_region_with ((with_reducible refine hcd.mono ?_); rintro e w4 ⟨rfl, hB4⟩; have HB4 := Lib.hid hB4; clear hB4)
          all_goals
            have e0' := (HX.out.step HB4.out).e.1
            go_wp2_with ((with_reducible refine (h2 _).mono ?_); rintro e w5 ⟨rfl, rfl⟩)
            exact ⟨rfl, by simp [hvb, ht, endV], (HX.out.step HB4.out).below⟩
        | some z =>
          simp only [ht, endV] at h2
          go_upto_region 19 with fail
          go_region_with ((with_reducible refine hcd.mono ?_); rintro e w4 ⟨rfl, hB4⟩; have HB4 := Lib.hid hB4; clear hB4)
          all_goals
            have e0' := (HX.out.step HB4.out).e.1
            go_wp2_with ((with_reducible refine (h2 _).mono ?_); rintro e w5 ⟨rfl, rfl⟩)
            go_ret
            exact ⟨by simp [hvb, ht, endV], (HX.out.step HB4.out).below⟩
set_option maxHeartbeats 8000000 in
theorem val_if (q : Ask) (n : Int) (a b d : Ex) (ha : ValP q a) (hb : ValP q b) (hd : ValP q d) (v : Value) (w : World) (hv : ExV w (.mk 13 n [a, b, d]) v) : Calls Try.prog 35 #[askV q, v] w fun e w' => e = endV ((valF q a).bind fun x => if x ≠ 0 then valF q b else valF q d) ∧ Below w.heap.size w w' := by
  obtain ⟨A, c, rfl, w1, w2, hlen, hK⟩ := hv.out
  simp only [Ex.op, Ex.n, Ex.kids, List.length_cons, List.length_nil, Nat.zero_add] at w1 w2 hK ⊢
  obtain ⟨ad, o, m, B, k, c1, rfl, hk⟩ := kid_val hK 0 a rfl ha
  obtain ⟨ad', o', m', B', k', c1', hA', hk'⟩ := kid_val hK 1 b rfl hb
  obtain rfl := Option.some.inj hA'
  obtain ⟨ad', o2, m2, B2, k2, c2', hA2, hk2⟩ := kid_val hK 2 d rfl hd
  obtain rfl := Option.some.inj hA2
  replace hk' := hk' ⟨ad.block, ad.off + 3, none⟩ rfl
  replace hk2 := hk2 ⟨ad.block, ad.off + 6, none⟩ rfl
  replace hk := hk _ (add0 ad)
  unfold askV
  obtain ⟨W, hW, hX⟩ := boxes w q 13 n (some ad) 3 c
  obtain ⟨c0, c1', c2, c3⟩ := hX.c
  obtain ⟨e0, e1, e2⟩ := hX.e
  have HW := Lib.hid hW; have HX := Lib.hid hX; have HK := Lib.hid hk'; have HK2 := Lib.hid hk2
  obtain ⟨k0, k1, k2, hcd⟩ := hk W.drew (below_drew hX.below)
  clear hk hv hK ha hb hd hW hX hk' hk2 hlen w1 w2 hA' hA2
  cases hva : valF q a with
  | none =>
    simp only [hva, endV] at hcd
    simp only [Option.bind_none]
    go_enter Try.func35, Try.ntmps35
    go_wp2_with fail
    rw [← HW.out]
    go_region_dies
    all_goals
      go_wp2_with ((with_reducible refine hcd.mono ?_); rintro e w4 ⟨rfl, hB4⟩)
      exact ⟨rfl, rfl, (HX.out.step hB4).below⟩
  | some x =>
    simp only [hva, endV] at hcd
    simp only [Option.bind_some]
    have hfin : ∃ r : Option Int, r = (if x ≠ 0 then valF q b else valF q d) ∧ ∃ (p : Addr) (o4 m4 : Int) (B4 : Option Addr) (k4 c4 : Nat), p = (if x ≠ 0 then ⟨ad.block, ad.off + 3, none⟩ else ⟨ad.block, ad.off + 6, none⟩) ∧ ∀ W, Below w.heap.size w W → W.cell? p = some (.int .i64 o4) ∧ W.cell? ⟨p.block, p.off + 1, none⟩ = some (.int .i64 m4) ∧ W.cell? ⟨p.block, p.off + 2, none⟩ = some (.slice B4 k4 c4) ∧
      Calls Try.prog 35 #[.agg #[.int .i64 q.key, .int .i64 q.val, .int .i64 q.time, .int .i64 q.acc], .agg #[.int .i64 o4, .int .i64 m4, .slice B4 k4 c4]] W fun e w' => e = endV r ∧ Below W.heap.size W w' := by
      by_cases hx : x ≠ 0
      · exact ⟨_, rfl, ⟨ad.block, ad.off + 3, none⟩, o', m', B', _, _, by rw [if_pos hx], by rw [if_pos hx]; exact HK.out⟩
      · exact ⟨_, rfl, ⟨ad.block, ad.off + 6, none⟩, o2, m2, B2, _, _, by rw [if_neg hx], by rw [if_neg hx]; exact HK2.out⟩
    obtain ⟨r, hr, p, o4, m4, B4, k4, c4, hp, hkk⟩ := hfin
    rw [← hr]
    have HKK := Lib.hid hkk
    clear hr hkk HK HK2
    by_cases hx : x = 0
    · rw [if_neg (by simpa using hx)] at hp
      subst hp
      go_enter Try.func35, Try.ntmps35
      go_upto_region 15 with fail
      rw [← HW.out]
      go_cut [49] (fun u wx => u = .bool false ∧ Bx w wx q 13 n (some ad) 3 c)
      case first =>
        go_region_with ((with_reducible refine hcd.mono ?_); rintro e w4 ⟨rfl, hB4⟩; have HB4 := Lib.hid hB4; clear hB4)
        all_goals
          go_wp2_with fail
          go_meet
          case rel => exact ⟨rfl, HX.out.step HB4.out⟩
      case rest =>
        clear c0 c1' c2 c3 e0 e1 e2 k0 k1 k2 hcd HX HW
        obtain ⟨rfl, hX⟩ := hcut
        rename World => wx
        obtain ⟨c0, c1', c2, c3⟩ := hX.c
        obtain ⟨e0, e1, e2⟩ := hX.e
        obtain ⟨k0, k1, k2, hcd⟩ := HKK.out wx.drew (below_drew hX.below)
        simp only at k0 k1 k2
        have HX := Lib.hid hX
        clear hX HKK
        cases r with
        | none =>
          simp only [endV] at hcd
          go_wp2_with fail
          go_region_dies
          all_goals
            go_wp2_with ((with_reducible refine hcd.mono ?_); rintro e w4 ⟨rfl, hB4⟩)
            exact ⟨rfl, rfl, (HX.out.step hB4).below⟩
        | some y =>
          simp only [endV] at hcd
          go_wp2_with fail
          go_region_with ((with_reducible refine hcd.mono ?_); rintro e w4 ⟨rfl, hB4⟩; have HB4 := Lib.hid hB4; clear hB4)
          all_goals
            go_wp2_with fail
            go_ret
            exact ⟨rfl, (HX.out.step HB4.out).below⟩
    · rw [if_pos hx] at hp
      subst hp
      go_enter Try.func35, Try.ntmps35
      go_upto_region 15 with fail
      rw [← HW.out]
      go_cut [49] (fun u wx => u = .bool true ∧ Bx w wx q 13 n (some ad) 3 c)
      case first =>
        go_region_with ((with_reducible refine hcd.mono ?_); rintro e w4 ⟨rfl, hB4⟩; have HB4 := Lib.hid hB4; clear hB4)
        all_goals
          go_wp2_with fail
          go_meet
          case rel => exact ⟨by simp [hx], HX.out.step HB4.out⟩
      case rest =>
        clear c0 c1' c2 c3 e0 e1 e2 k0 k1 k2 hcd HX HW
        obtain ⟨rfl, hX⟩ := hcut
        rename World => wx
        obtain ⟨c0, c1', c2, c3⟩ := hX.c
        obtain ⟨e0, e1, e2⟩ := hX.e
        obtain ⟨k0, k1, k2, hcd⟩ := HKK.out wx.drew (below_drew hX.below)
        simp only at k0 k1 k2
        have HX := Lib.hid hX
        clear hX HKK
        cases r with
        | none =>
          simp only [endV] at hcd
          go_wp2_with fail
          go_region_dies
          all_goals
            go_wp2_with ((with_reducible refine hcd.mono ?_); rintro e w4 ⟨rfl, hB4⟩)
            exact ⟨rfl, rfl, (HX.out.step hB4).below⟩
        | some y =>
          simp only [endV] at hcd
          go_wp2_with fail
          go_region_with ((with_reducible refine hcd.mono ?_); rintro e w4 ⟨rfl, hB4⟩; have HB4 := Lib.hid hB4; clear hB4)
          all_goals
            go_wp2_with fail
            go_ret
            exact ⟨rfl, (HX.out.step HB4.out).below⟩
end Go.Proofs.Ytanhibhcmfmeeaa.Ex
/- The walk of value, whole; of Eval. -/
namespace Go.Proofs.Ytanhibhcmfmeeaa.Ex
open Go.RowKit Go.Proofs.YtanhibhcmfmeeaaW.PrintWords Go.Proofs.Ytanhibhcmfmeeaa.Cut Go.Proofs.Ytanhibhcmfmeeaa.Fr
theorem len2 {α : Type} {l : List α} (h : l.length = 2) : ∃ a b, l = [a, b] := by
  obtain ⟨a, r, rfl⟩ := List.exists_cons_of_length_pos (l := l) (by omega)
  obtain ⟨b, rfl⟩ := List.length_eq_one_iff.1 (show r.length = 1 by simpa using h)
  exact ⟨a, b, rfl⟩
theorem len3 {α : Type} {l : List α} (h : l.length = 3) : ∃ a b c, l = [a, b, c] := by
  obtain ⟨a, r, rfl⟩ := List.exists_cons_of_length_pos (l := l) (by omega)
  obtain ⟨b, c, rfl⟩ := len2 (show r.length = 2 by simpa using h)
  exact ⟨a, b, c, rfl⟩
theorem value_calls (q : Ask) : ∀ (N : Nat) (x : Ex), SizeOf.sizeOf x ≤ N → Fit x → ValP q x := by
  intro N
  induction N with
  | zero => intro x hx; obtain ⟨op, n, ks⟩ := x; simp at hx
  | succ N ih =>
    intro x hx hf
    obtain ⟨op, n, ks⟩ := x
    obtain ⟨h1, h2, h3⟩ := hf.ok
    have ih : ∀ k ∈ ks, ValP q k := fun k hk => ih k (by have := size_kid (op := op) (n := n) hk; omega) (h3 k hk)
    have h0 : 1 ≤ op ∧ op < 17 := of_decide_eq_true h1
    have e : kidsN op = kidsT.getD op.toNat 0 := if_pos h0
    rw [e] at h2
    clear e hx hf h3 h1
    intro v w hv
    have hc : op = 1 ∨ op = 2 ∨ op = 3 ∨ op = 4 ∨ op = 5 ∨ op = 6 ∨ op = 7 ∨ op = 8 ∨ op = 9 ∨ op = 10 ∨ op = 11 ∨ op = 12 ∨ op = 13 ∨ op = 14 ∨ op = 15 ∨ op = 16 := by omega
    have key : ∀ k : Nat, kidsT.getD op.toNat 0 = k → ks.length = k := fun k hk => by rw [hk] at h2; omega
    have leaf : ks.length = 0 → (op = 1 ∨ op = 2 ∨ op = 3 ∨ op = 4 ∨ op = 5) → Calls Try.prog 35 #[askV q, v] w fun e w' => e = endV (valF q (.mk op n ks)) ∧ Below w.heap.size w w' := fun hl ho => by
      obtain rfl := List.eq_nil_of_length_eq_zero hl
      obtain ⟨A, c, rfl, _⟩ := hv.out
      exact val_leaf q op n A c w ho
    have two : ks.length = 2 → isTwo op → Calls Try.prog 35 #[askV q, v] w fun e w' => e = endV (valF q (.mk op n ks)) ∧ Below w.heap.size w w' := fun hl ho => by
      obtain ⟨a, b, rfl⟩ := len2 hl
      have h := val_two q op n ho a b (ih a (by simp)) (ih b (by simp)) v w hv
      unfold valF
      exact h
    unfold isTwo at two
    rcases hc with rfl | rfl | rfl | rfl | rfl | rfl | rfl | rfl | rfl | rfl | rfl | rfl | rfl | rfl | rfl | rfl
    · exact leaf (key 0 (by decide)) (by decide)
    · exact leaf (key 0 (by decide)) (by decide)
    · exact leaf (key 0 (by decide)) (by decide)
    · exact leaf (key 0 (by decide)) (by decide)
    · exact leaf (key 0 (by decide)) (by decide)
    · exact two (key 2 (by decide)) (by decide)
    · exact two (key 2 (by decide)) (by decide)
    · exact two (key 2 (by decide)) (by decide)
    · exact two (key 2 (by decide)) (by decide)
    · exact two (key 2 (by decide)) (by decide)
    · exact two (key 2 (by decide)) (by decide)
    · exact two (key 2 (by decide)) (by decide)
    · obtain ⟨a, b, d, rfl⟩ := len3 (key 3 (by decide))
      have h := val_if q n a b d (ih a (by simp)) (ih b (by simp)) (ih d (by simp)) v w hv
      unfold valF
      exact h
    · obtain ⟨a, rfl⟩ := List.length_eq_one_iff.1 (key 1 (by decide))
      have h := val_neg q n a (ih a (by simp)) v w hv
      unfold valF
      exact h
    · exact two (key 2 (by decide)) (by decide)
    · exact two (key 2 (by decide)) (by decide)
theorem value_any (q : Ask) (x : Ex) (h : mayE x = true) : ValP q x := value_calls q _ x (Nat.le_refl _) (fit_may h)
end Go.Proofs.Ytanhibhcmfmeeaa.Ex
/- The walk of Eval. -/
namespace Go.Proofs.Ytanhibhcmfmeeaa.Ex
open Go.RowKit Go.Proofs.YtanhibhcmfmeeaaW.PrintWords Go.Proofs.Ytanhibhcmfmeeaa.Cut Go.Proofs.Ytanhibhcmfmeeaa.Fr
theorem catch_panicking (p p' : Addr) (x y : Int) (w : World) (hc : w.cell? p = some (.int .i64 x)) (hz : w.frozen? p = false) (hc' : w.cell? p' = some (.int .i64 y)) (hz' : w.frozen? p' = false) (hne : p ≠ p') :
    CallsD Try.prog 34 #[.pointer (some p), .pointer (some p')] (.panicking ({ v := .iface 25 (.int .i64 10), recovered := false } :: [])) w fun e u' w' =>
      e = .returned (.tuple #[]) ∧ u' = .panicking ({ v := .iface 25 (.int .i64 10), recovered := true } :: []) ∧ w' = (w.setCell p (.int .i64 0)).setCell p' (.int .i64 10) := by
  have hc2 : ((w.setCell p (.int .i64 0)).cell? p') = some (.int .i64 y) := by rw [World.cell?_setCell_other _ _ _ _ hne]; exact hc'
  have hz2 : (w.setCell p (.int .i64 0)).frozen? p' = false := by simpa using hz'
  have hta : ∀ w : World, (Instr.typeAssert (.iface 25 (.int .i64 10)) 20 25 true).run Try.prog w = .ok (.tuple #[.int .i64 10, .bool true]) w := fun _ => by kernel_rfl
  refine callsD_of_wpS Try.func34 rfl fun c₀ cs hu => ?_
  apply wpS_seq
  apply wpS_region
  simp [wpOpsS, go_sem, recoverD, hu, Try.ntmps34, Exit.thenS, hta]
  apply wpS_seq
  apply wpS_region
  simp [wpOpsS, go_sem, Exit.thenS]
  refine wpS_cond (t := true) (by simp [Act.eval, Array.replicate]) ?_
  simp only [if_true]
  apply wpS_region
  simp [wpOpsS, go_sem, hc, hz, hc2, hz2, bodyPostS, results, Try.results34]
theorem catch_idle (p p' : Addr) (w : World) : CallsD Try.prog 34 #[.pointer (some p), .pointer (some p')] .returning w fun e u' w' => e = .returned (.tuple #[]) ∧ u' = .returning ∧ w' = w := by
  have hta : ∀ w : World, (Instr.typeAssert .nilIface 20 25 true).run Try.prog w = .ok (.tuple #[.int .i64 0, .bool false]) w := fun _ => by kernel_rfl
  refine callsD_of_wpS Try.func34 rfl fun c₀ cs hu => ?_
  apply wpS_seq
  apply wpS_region
  simp [wpOpsS, go_sem, recoverD, hu, Try.ntmps34, Exit.thenS, hta]
  apply wpS_seq
  apply wpS_region
  simp [wpOpsS, go_sem, Exit.thenS]
  refine wpS_cond (t := false) (by simp [Act.eval, Array.replicate]) ?_
  simp only [Bool.false_eq_true, if_false]
  refine wpS_of_wp (wp_skip ?_)
  cases c₀
  simp_all [bodyPostS, results, Try.results34]
theorem four (w : World) (a b c d : Obj) : ∃ W, W = (((w.alloc a).alloc b).alloc c).alloc d ∧ Below w.heap.size w W ∧ W.heap[w.heap.size]? = some a ∧ W.heap[w.heap.size + 1]? = some b ∧ W.heap[w.heap.size + 1 + 1]? = some c ∧ W.heap[w.heap.size + 1 + 1 + 1]? = some d := by
  refine ⟨_, rfl, below_alloc (below_alloc (below_alloc (below_alloc (Below.refl _ _) _) _) _) _, ?_⟩
  have o1 := fun (w : World) (o : Obj) (k : Nat) (h : k < w.heap.size) => (Go.MapKept.heap_alloc w o).2 k h
  refine ⟨?_, ?_, ?_, ?_⟩
  · rw [o1 _ _ _ (by simp; omega), o1 _ _ _ (by simp; omega), o1 _ _ _ (by simp), (Go.MapKept.heap_alloc w a).1]
  · rw [o1 _ _ _ (by simp), o1 _ _ _ (by simp)]
    simpa using (Go.MapKept.heap_alloc (w.alloc a) b).1
  · rw [o1 _ _ _ (by simp)]
    simpa using (Go.MapKept.heap_alloc ((w.alloc a).alloc b) c).1
  · simpa using (Go.MapKept.heap_alloc (((w.alloc a).alloc b).alloc c) d).1
def evalF (q : Ask) (x : Ex) : Int × Int := if mayE x = true then (match valF q x with | some v => (v, 0) | none => (0, 10)) else (0, 1)
theorem eval_cells {w w1 : World} {g h : Nat} {a b : Int} (k2 : w1.heap[g]? = some (.cells #[.int .i64 a] 2 (0, 0))) (k3 : w1.heap[h]? = some (.cells #[.int .i64 b] 25 (0, 0))) (hB : Below w.heap.size w w1) (hg : w.heap.size ≤ g) (hh : w.heap.size ≤ h) (x y : Int) :
    ((w1.setCell ⟨g, 0, none⟩ (.int .i64 x)).setCell ⟨h, 0, none⟩ (.int .i64 y)).cell? ⟨g, 0, none⟩ = some (.int .i64 x) ∧ ((w1.setCell ⟨g, 0, none⟩ (.int .i64 x)).setCell ⟨h, 0, none⟩ (.int .i64 y)).cell? ⟨h, 0, none⟩ = some (.int .i64 y) ∧ Below w.heap.size w ((w1.setCell ⟨g, 0, none⟩ (.int .i64 x)).setCell ⟨h, 0, none⟩ (.int .i64 y)) := by
  have hne : g ≠ h := blk_ne k2 k3 (by decide)
  have m2 := blk_set k2 0 (.int .i64 x)
  have m3 : (w1.setCell ⟨g, 0, none⟩ (.int .i64 x)).heap[h]? = some (.cells #[.int .i64 b] 25 (0, 0)) := (Below.heap_setCell w1 ⟨g, 0, none⟩ _ h (fun e => hne e.symm)).trans k3
  have n3 := blk_set m3 0 (.int .i64 y)
  have n2 : ((w1.setCell ⟨g, 0, none⟩ (.int .i64 x)).setCell ⟨h, 0, none⟩ (.int .i64 y)).heap[g]? = some (.cells (#[Value.int .i64 a].setIfInBounds 0 (.int .i64 x)) 2 (0, 0)) := (Below.heap_setCell _ ⟨h, 0, none⟩ _ g hne).trans m2
  exact ⟨(blk_cell n2 0).trans rfl, (blk_cell n3 0).trans rfl, (hB.setCell hg _).setCell hh _⟩
set_option maxHeartbeats 4000000 in
theorem eval_calls (q : Ask) (x : Ex) (v : Value) (w : World) (hv : ExV w x v) :
    Calls Try.prog 23 #[v, .agg #[.int .i64 q.key, .int .i64 q.val, .int .i64 q.time], .int .i64 q.acc] w fun e w' => e = .returned (.tuple #[.int .i64 (evalF q x).1, .int .i64 (evalF q x).2]) ∧ Below w.heap.size w w' := by
  have hmf : ∀ (fn : Fn) (first cap : Array Value) (w : World), (Instr.makeFunc fn first cap).run Try.prog w = .ok (.func fn first cap) w := fun _ _ _ _ => rfl
  have hM := fun W (hW : Below w.heap.size w W) => May_calls x v W (hv.below hW)
  have hVl := fun h W (hW : Below w.heap.size w W) => value_any q x h v W (hv.below hW)
  obtain ⟨A, c, rfl, _⟩ := hv.out
  obtain ⟨W, hW, hB, r0, r1, r2, r3⟩ := four w (.cells #[.int .i64 x.op, .int .i64 x.n, .slice A x.kids.length c] 31) (.cells #[.int .i64 q.key, .int .i64 q.val, .int .i64 q.time] 36) (.cells #[.int .i64 0] 2) (.cells #[.int .i64 0] 25)
  have hsz : W.heap.size = w.heap.size + 4 := by rw [hW]; simp
  replace hM := hM W hB
  have HW := Lib.hid hW
  cases hm : mayE x with
  | false =>
    rw [hm] at hM
    rw [show evalF q x = (0, 1) from by unfold evalF; rw [hm]; rfl]
    clear hVl hW hm hv
    go_enter_defers Try.func23, Try.ntmps23
    go_wp2_with fail
    rw [← HW.out]
    refine hM.mono ?_
    rintro e w1 ⟨rfl, hB1⟩
    have k2 := (hB1.block (w.heap.size + 1 + 1) (by omega)).trans r2
    have k3 := (hB1.block (w.heap.size + 1 + 1 + 1) (by omega)).trans r3
    have g2 : w1.cell? ⟨w.heap.size + 1 + 1, 0, none⟩ = some (.int .i64 0) := (blk_cell k2 0).trans rfl
    have g3 : w1.cell? ⟨w.heap.size + 1 + 1 + 1, 0, none⟩ = some (.int .i64 0) := (blk_cell k3 0).trans rfl
    have f2 := blk_frozen k2 0
    have f3 := blk_frozen k3 0
    have HB := Lib.hid (below_then hB hB.size hB1)
    have HK := Lib.hid (And.intro k2 k3)
    clear hB hB1 r0 r1 r2 r3 hM k2 k3
    go_wp2_with fail
    obtain ⟨z1, z2, z3⟩ := eval_cells HK.out.1 HK.out.2 HB.out (by omega) (by omega) 0 1
    simp [bodyPostD, Leaves, results, Try.results23, go_sem, z1, z2]
    exact z3
  | true =>
    rw [hm] at hM
    replace hVl := hVl hm
    cases hva : valF q x with
    | some n =>
      simp only [hva, endV] at hVl
      rw [show evalF q x = (n, 0) from by unfold evalF; rw [hm, hva]; rfl]
      clear hW hm hv hva
      go_enter_defers Try.func23, Try.ntmps23
      go_wp2_with fail
      rw [← HW.out]
      refine hM.mono ?_
      rintro e w1 ⟨rfl, hB1⟩
      have k0 := (hB1.block w.heap.size (by omega)).trans r0
      have k1 := (hB1.block (w.heap.size + 1) (by omega)).trans r1
      have k2 := (hB1.block (w.heap.size + 1 + 1) (by omega)).trans r2
      have k3 := (hB1.block (w.heap.size + 1 + 1 + 1) (by omega)).trans r3
      have g0 : w1.cell? ⟨w.heap.size, 0, none⟩ = some (.int .i64 x.op) := (blk_cell k0 0).trans rfl
      have g0' : w1.cell? ⟨w.heap.size, 1, none⟩ = some (.int .i64 x.n) := (blk_cell k0 1).trans rfl
      have g0'' : w1.cell? ⟨w.heap.size, 2, none⟩ = some (.slice A x.kids.length c) := (blk_cell k0 2).trans rfl
      have g1 : w1.cell? ⟨w.heap.size + 1, 0, none⟩ = some (.int .i64 q.key) := (blk_cell k1 0).trans rfl
      have g1' : w1.cell? ⟨w.heap.size + 1, 1, none⟩ = some (.int .i64 q.val) := (blk_cell k1 1).trans rfl
      have g1'' : w1.cell? ⟨w.heap.size + 1, 2, none⟩ = some (.int .i64 q.time) := (blk_cell k1 2).trans rfl
      have hB2 := below_then hB hB.size hB1
      have hV := hVl w1 hB2
      have HB := Lib.hid hB2
      have HK := Lib.hid (And.intro k2 k3)
      have hs1 : w.heap.size + 1 + 1 + 1 < w1.heap.size := by have := hB1.size; omega
      clear hB hB1 r0 r1 r2 r3 hM k0 k1 k2 k3 hB2 hVl
      unfold askV at hV
      go_wp2_with fail
      refine hV.mono ?_
      rintro e w2 ⟨rfl, hB2⟩
      have k2 := (hB2.block (w.heap.size + 1 + 1) (by omega)).trans HK.out.1
      have k3 := (hB2.block (w.heap.size + 1 + 1 + 1) (by omega)).trans HK.out.2
      have g2 : w2.cell? ⟨w.heap.size + 1 + 1, 0, none⟩ = some (.int .i64 0) := (blk_cell k2 0).trans rfl
      have g3 : w2.cell? ⟨w.heap.size + 1 + 1 + 1, 0, none⟩ = some (.int .i64 0) := (blk_cell k3 0).trans rfl
      have f2 := blk_frozen k2 0
      have f3 := blk_frozen k3 0
      have HB := Lib.hid (below_then HB.out HB.out.size hB2)
      have HK := Lib.hid (And.intro k2 k3)
      clear hB2 hV k2 k3
      go_wp2_with fail
      obtain ⟨z1, z2, z3⟩ := eval_cells HK.out.1 HK.out.2 HB.out (by omega) (by omega) n 0
      refine leaves_cons (f := 34) (args := #[.pointer (some ⟨w.heap.size + 1 + 1, 0, none⟩), .pointer (some ⟨w.heap.size + 1 + 1 + 1, 0, none⟩)]) (by simp) (by simp [go_sem]) ?_
      refine (catch_idle _ _ _).mono ?_
      rintro e u' w'' ⟨rfl, rfl, rfl⟩
      simp [Leaves, settle, results, Try.results23, go_sem, z1, z2]
      exact z3
    | none =>
      simp only [hva, endV] at hVl
      rw [show evalF q x = (0, 10) from by unfold evalF; rw [hm, hva]; rfl]
      clear hW hm hv hva
      go_enter_defers Try.func23, Try.ntmps23
      go_wp2_with fail
      rw [← HW.out]
      refine hM.mono ?_
      rintro e w1 ⟨rfl, hB1⟩
      have k0 := (hB1.block w.heap.size (by omega)).trans r0
      have k1 := (hB1.block (w.heap.size + 1) (by omega)).trans r1
      have k2 := (hB1.block (w.heap.size + 1 + 1) (by omega)).trans r2
      have k3 := (hB1.block (w.heap.size + 1 + 1 + 1) (by omega)).trans r3
      have g0 : w1.cell? ⟨w.heap.size, 0, none⟩ = some (.int .i64 x.op) := (blk_cell k0 0).trans rfl
      have g0' : w1.cell? ⟨w.heap.size, 1, none⟩ = some (.int .i64 x.n) := (blk_cell k0 1).trans rfl
      have g0'' : w1.cell? ⟨w.heap.size, 2, none⟩ = some (.slice A x.kids.length c) := (blk_cell k0 2).trans rfl
      have g1 : w1.cell? ⟨w.heap.size + 1, 0, none⟩ = some (.int .i64 q.key) := (blk_cell k1 0).trans rfl
      have g1' : w1.cell? ⟨w.heap.size + 1, 1, none⟩ = some (.int .i64 q.val) := (blk_cell k1 1).trans rfl
      have g1'' : w1.cell? ⟨w.heap.size + 1, 2, none⟩ = some (.int .i64 q.time) := (blk_cell k1 2).trans rfl
      have hB2 := below_then hB hB.size hB1
      have hV := hVl w1 hB2
      have HB := Lib.hid hB2
      have HK := Lib.hid (And.intro k2 k3)
      have hs1 : w.heap.size + 1 + 1 + 1 < w1.heap.size := by have := hB1.size; omega
      clear hB hB1 r0 r1 r2 r3 hM k0 k1 k2 k3 hB2 hVl
      unfold askV at hV
      go_wp2_with fail
      refine hV.mono ?_
      rintro e w2 ⟨rfl, hB2⟩
      have k2 := (hB2.block (w.heap.size + 1 + 1) (by omega)).trans HK.out.1
      have k3 := (hB2.block (w.heap.size + 1 + 1 + 1) (by omega)).trans HK.out.2
      have g2 : w2.cell? ⟨w.heap.size + 1 + 1, 0, none⟩ = some (.int .i64 0) := (blk_cell k2 0).trans rfl
      have g3 : w2.cell? ⟨w.heap.size + 1 + 1 + 1, 0, none⟩ = some (.int .i64 0) := (blk_cell k3 0).trans rfl
      have f2 := blk_frozen k2 0
      have f3 := blk_frozen k3 0
      have HB := Lib.hid (below_then HB.out HB.out.size hB2)
      have HK := Lib.hid (And.intro k2 k3)
      clear hB2 hV k2 k3
      obtain ⟨z1, z2, z3⟩ := eval_cells HK.out.1 HK.out.2 HB.out (by omega) (by omega) 0 10
      refine leaves_cons (f := 34) (args := #[.pointer (some ⟨w.heap.size + 1 + 1, 0, none⟩), .pointer (some ⟨w.heap.size + 1 + 1 + 1, 0, none⟩)]) (by simp) (by simp [go_sem]) ?_
      refine (catch_panicking _ _ 0 0 _ g2 f2 g3 f3 (by simp)).mono ?_
      rintro e u' w'' ⟨rfl, rfl, rfl⟩
      simp [Leaves, settle, results, Try.results23, go_sem, z1, z2]
      exact z3
end Go.Proofs.Ytanhibhcmfmeeaa.Ex
