import Derived.Test.YtanhibhcmfmeeaaWWords
/- Expressions, plain: how many operands, whether one may be, its value. -/
namespace Go.Proofs.Ytanhibhcmfmeeaa.Ex
open Go.RowKit Go.Proofs.YtanhibhcmfmeeaaW.PrintWords
inductive Ex where
  | mk (op n : Int) (kids : List Ex)
def Ex.op : Ex → Int | .mk o _ _ => o
def Ex.n : Ex → Int | .mk _ n _ => n
def Ex.kids : Ex → List Ex | .mk _ _ k => k
def kidsT : List Int := [0, 0, 0, 0, 0, 0, 2, 2, 2, 2, 2, 2, 2, 3, 1, 2, 2]
def kidsN (op : Int) : Int := if 1 ≤ op ∧ op < 17 then kidsT.getD op.toNat 0 else 0
def kidsOk (op : Int) : Bool := decide (1 ≤ op ∧ op < 17)
def badB (op n : Int) (k : Nat) (deep left : Int) : Bool := decide (kidsOk op = false ∨ kidsN op ≠ k ∨ n ≠ 0 ∧ op ≠ 1 ∨ deep = 0 ∨ left = 0)
mutual
def mayF : Ex → Int → Int → Int
  | .mk op n ks, deep, left => if badB op n ks.length deep left = true then -1 else mayL ks (deep - 1) (left - 1)
def mayL : List Ex → Int → Int → Int
  | [], _, left => left
  | k :: r, deep, left => if mayF k deep left < 0 then -1 else mayL r deep (mayF k deep left)
end
mutual
theorem mayF_le : ∀ (x : Ex) (deep left : Int), 0 ≤ left → mayF x deep left ≤ left ∧ -1 ≤ mayF x deep left
  | .mk op n ks, deep, left, h => by
    unfold mayF
    split
    · omega
    · rename_i hb
      have h0 : left ≠ 0 := fun e => hb (by unfold badB; simp [e])
      have := mayL_le ks (deep - 1) (left - 1) (by omega)
      omega
theorem mayL_le : ∀ (l : List Ex) (deep left : Int), 0 ≤ left → mayL l deep left ≤ left ∧ -1 ≤ mayL l deep left
  | [], deep, left, h => by unfold mayL; omega
  | k :: r, deep, left, h => by
    unfold mayL
    have h1 := mayF_le k deep left h
    split
    · omega
    · have h2 := mayL_le r deep (mayF k deep left) (by omega)
      omega
end
/-- The value: none: a division by 0. -/
def twoF (op a b : Int) : Option Int :=
  if op = 6 then some (wrap64 (a + b)) else if op = 7 then some (wrap64 (a - b)) else if op = 8 then some (wrap64 (a * b))
  else if op = 11 then some (if a < b then 1 else 0) else if op = 12 then some (if a = b then 1 else 0)
  else if op = 15 then some (min a b) else if op = 16 then some (max a b)
  else if b = 0 then none else if op = 9 then some (wrap64 (a.tdiv b)) else some (a.tmod b)
/-- What an expression is asked of: a record's key, value, time; what was gathered. -/
structure Ask where
  key : Int
  val : Int
  time : Int
  acc : Int
def leafF (q : Ask) (op n : Int) : Int := if op = 1 then n else if op = 2 then q.key else if op = 3 then q.val else if op = 4 then q.time else q.acc
def isLeaf (op : Int) : Bool := decide (op = 1 ∨ op = 2 ∨ op = 3 ∨ op = 4 ∨ op = 5)
def valF (q : Ask) : Ex → Option Int
  | .mk op n [] => some (leafF q op n)
  | .mk _ _ [a] => (valF q a).map fun x => wrap64 (-x)
  | .mk op _ [a, b] => (valF q a).bind fun x => (valF q b).bind fun y => twoF op x y
  | .mk _ _ [a, b, c] => (valF q a).bind fun x => if x ≠ 0 then valF q b else valF q c
  | .mk _ _ (_ :: _ :: _ :: _ :: _) => none
/-- Its operations have as many operands as they should. -/
inductive Fit : Ex → Prop where
  | mk (op n : Int) (ks : List Ex) (h : kidsOk op = true) (hk : kidsN op = ks.length) (hs : ∀ k ∈ ks, Fit k) : Fit (.mk op n ks)
theorem Fit.ok {op n : Int} {ks : List Ex} (h : Fit (.mk op n ks)) : kidsOk op = true ∧ kidsN op = ks.length ∧ ∀ k ∈ ks, Fit k := by
  cases h with
  | mk _ _ _ a b c => exact ⟨a, b, c⟩
mutual
theorem fit_of : ∀ (x : Ex) (deep left : Int), 0 ≤ mayF x deep left → Fit x
  | .mk op n ks, deep, left, h => by
    unfold mayF at h
    split at h
    · omega
    · rename_i hb
      have hb' : ¬ (kidsOk op = false ∨ kidsN op ≠ ks.length ∨ n ≠ 0 ∧ op ≠ 1 ∨ deep = 0 ∨ left = 0) := fun e => hb (decide_eq_true e)
      refine .mk op n ks ?_ ?_ (fits_of ks _ _ h)
      · cases hk : kidsOk op with
        | true => rfl
        | false => exact absurd (.inl hk) hb'
      · refine Decidable.byContradiction fun e => hb' (.inr (.inl e))
theorem fits_of : ∀ (l : List Ex) (deep left : Int), 0 ≤ mayL l deep left → ∀ k ∈ l, Fit k
  | [], _, _, _, k, hk => by simp at hk
  | k :: r, deep, left, h, j, hj => by
    unfold mayL at h
    split at h
    · omega
    · rename_i h1
      rcases List.mem_cons.1 hj with e | e
      · rw [e]; exact fit_of k deep left (by omega)
      · exact fits_of r deep _ h j e
end
def mayE (x : Ex) : Bool := decide (0 ≤ mayF x 16 64)
theorem fit_may {x : Ex} (h : mayE x = true) : Fit x := fit_of x 16 64 (of_decide_eq_true h)
theorem size_kid {x : Ex} {op n : Int} {ks : List Ex} (h : x ∈ ks) : SizeOf.sizeOf x < SizeOf.sizeOf (Ex.mk op n ks) := by
  have := List.sizeOf_lt_of_mem h
  simp only [Ex.mk.sizeOf_spec]
  omega
abbrev W64 (a : Int) : Prop := (Lit.int .i64 a).wf = true
theorem W64_of {n : Int} (h1 : -9223372036854775808 ≤ n) (h2 : n ≤ 9223372036854775807) : W64 n := WalkArith.wf_i64 (by omega)
end Go.Proofs.Ytanhibhcmfmeeaa.Ex
