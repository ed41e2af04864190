import Derived.Test.YtfccepkpbnalmaaPChgCompactsx4
import Derived.Test.YtfccepkpbnalmaaPChgCompactsx0
import Derived.Test.YtfccepkpbnalmaaPChgCompactsx1
import Derived.Test.YtfccepkpbnalmaaPChgCompactsx2
import Derived.Test.YtfccepkpbnalmaaPChgCompactsx3
/- The plain law of ChgCompacts. -/
namespace Go.Proofs.Ytfccepkpbnalmaa.PChgCompacts
open Go.RowKit Go.Proofs.YtfccepkpbnalmaaW.PrintWords Go.Proofs.YtfccepkpbnalmaaW.PrintLast
theorem wrap_small {i : Int} (h0 : 0 ≤ i) (h : i ≤ 9223372036854775807) : wrap64 i = i := by unfold wrap64; omega
theorem changes_same (l : List S30) (hl : l.length ≤ 9223372036854775800) (d : Nat) : ∀ (k : Nat) (i : Int), 0 ≤ i → (l.length : Int) - i = d → d < k → tidemillref12_Changes.l0 k l l i = some true := by
  induction d with
  | zero =>
    intro k i h0 hd hk
    obtain ⟨k, rfl⟩ : ∃ m, k = m + 1 := ⟨k - 1, by omega⟩
    simp only [tidemillref12_Changes.l0]; rw [if_neg (by omega)]
  | succ d ih =>
    intro k i h0 hd hk
    obtain ⟨k, rfl⟩ : ∃ m, k = m + 1 := ⟨k - 1, by omega⟩
    simp only [tidemillref12_Changes.l0]
    rw [if_pos (by omega), if_pos h0, if_pos (by omega), if_neg (by simp), wrap_small (by omega) (by omega)]
    exact ih k (i + 1) (by omega) (by omega) (by omega)
theorem changes_f (l : List S30) (hl : l.length ≤ 9223372036854775800) (k : Nat) (hk : l.length < k) : tidemillref12_Changes.f k l l = some true := by
  unfold tidemillref12_Changes.f
  rw [if_pos rfl]
  exact changes_same l hl l.length k 0 (by omega) (by omega) hk
theorem shown4 {k : Nat} (h : 4 ≤ k) : tidemilllaw15_shown.f k = some true := at_rounds tidemilllaw15_shown.mono (k := 4) h (by decide +kernel)
def lastS (l : List S30) : List S30 := (Chg.lastM (l.map tup30)).map unt30
theorem tu_id (l : List Chg.T5) : (l.map unt30).map tup30 = l := by
  rw [List.map_map]; exact (List.map_congr_left fun x _ => rfl).trans (List.map_id _)
theorem ut_id (l : List S30) : (l.map tup30).map unt30 = l := by
  rw [List.map_map]; exact (List.map_congr_left fun x _ => rfl).trans (List.map_id _)
theorem map_inj {a b : List S30} (h : a.map tup30 = b.map tup30) : a = b := by rw [← ut_id a, h, ut_id]
theorem lastS_tup (l : List S30) : (lastS l).map tup30 = Chg.lastM (l.map tup30) := tu_id _
def wfS (l : List S30) : Prop := ∀ x ∈ l, Chg.wfB (tup30 x) = true
theorem lastS_mem {l : List S30} {x : S30} (h : x ∈ lastS l) : x ∈ l := by
  obtain ⟨y, hy, rfl⟩ := List.mem_map.1 h
  have h2 := (Chg.lastAt_kp (((Chg.lastM_spec _).2 y).1 hy).1).2
  obtain ⟨z, hz, rfl⟩ := List.mem_map.1 h2
  exact hz
theorem lastS_wf {l : List S30} (h : wfS l) : wfS (lastS l) := fun x hx => h x (lastS_mem hx)
theorem lastS_len (l : List S30) : (lastS l).length ≤ l.length := by
  unfold lastS
  rw [List.length_map]
  exact Nat.le_trans Chg.rises_len_le (Nat.le_of_eq (List.length_map _))
theorem last_f (l : List S30) (hw : wfS l) (hn : l.length ≤ 1000000) : chg_Last.f l = some (lastS l) := by
  unfold chg_Last.f Chg.lastF
  have hall : (l.map tup30).all Chg.wfB = true := List.all_eq_true.2 fun x hx => by
    obtain ⟨y, hy, rfl⟩ := List.mem_map.1 hx
    exact hw y hy
  rw [if_pos ⟨hall, hn⟩]; rfl
theorem few_f (l : List S30) : tidemilllaw15_few.f l = some (l.take 300) := by
  unfold tidemilllaw15_few.f
  split
  · rw [if_pos (by omega)]
  · rw [List.take_of_length_le (by omega)]
theorem few_len (l : List S30) : (l.take 300).length ≤ 300 := by rw [List.length_take]; omega
theorem wf_take {l : List S30} (h : wfS l) (n : Nat) : wfS (l.take n) := fun x hx => h x (List.mem_of_mem_take hx)
theorem wf_drop {l : List S30} (h : wfS l) (n : Nat) : wfS (l.drop n) := fun x hx => h x (List.mem_of_mem_drop hx)
theorem wf_append {a b : List S30} (h : wfS a) (g : wfS b) : wfS (a ++ b) := fun x hx => (List.mem_append.1 hx).elim (h x) (g x)
theorem wf_of (l : List S30) (h : ∀ x ∈ l, (Lit.int .i64 x.f0).wf = true ∧ (Lit.int .i64 x.f1).wf = true ∧ (Lit.int .i64 x.f2).wf = true ∧ (Lit.int .i64 x.f3).wf = true ∧ True) : wfS l := fun x hx => by
  obtain ⟨h0, h1, h2, _⟩ := h x hx
  show ((Lit.int .i64 x.f0).wf && ((Lit.int .i64 x.f1).wf && (Lit.int .i64 x.f2).wf)) = true
  rw [h0, h1, h2]; rfl
theorem lastS_two (a b : List S30) : lastS (lastS a ++ b) = lastS (a ++ b) := by
  apply map_inj
  rw [lastS_tup, lastS_tup, List.map_append, lastS_tup, List.map_append, Chg.lastM_lastM_append]
theorem lastS_idem (a : List S30) : lastS (lastS a) = lastS a := by
  apply map_inj
  rw [lastS_tup, lastS_tup, Chg.lastM_idem]
theorem pure_ (l : List S30) (a1 : Int) (h1 : 0 ≤ a1 ∧ a1 ≤ 65535) (hw : wfS l) : tidemilllaw15_ChgCompacts.f 1000 l a1 = some true := by
  obtain ⟨p, rfl⟩ := Int.eq_ofNat_of_zero_le h1.1
  unfold tidemilllaw15_ChgCompacts.f
  rw [shown4 (by decide), Option.bind_some, few_f, Option.bind_some]
  have hwL := wf_take hw 300
  have hL := few_len l
  generalize l.take 300 = L at hwL hL ⊢
  have w1 : wrap64 ((L.length : Int) + 1) = ((L.length + 1 : Nat) : Int) := by rw [wrap_small (by omega) (by omega)]; rfl
  have w2 : wrap64 (p : Int) = (p : Int) := wrap_small (by omega) (by omega)
  have w3 : Int.tmod (p : Int) ((L.length + 1 : Nat) : Int) = ((p % (L.length + 1) : Nat) : Int) := by
    rw [Int.tmod_eq_emod_of_nonneg (by omega)]; rfl
  have hq : p % (L.length + 1) ≤ L.length := by have := Nat.mod_lt p (show 0 < L.length + 1 by omega); omega
  rw [w1, w2, w3]
  clear w1 w2 w3
  generalize p % (L.length + 1) = q at hq ⊢
  have l1 := lastS_len L
  have l2 := lastS_len (L.take q)
  have l3 : (L.take q).length ≤ L.length := by rw [List.length_take]; omega
  have l4 : (L.drop q).length ≤ L.length := by rw [List.length_drop]; omega
  have e : lastS (lastS (L.take q) ++ L.drop q) = lastS L := by rw [lastS_two, List.take_append_drop]
  rw [if_neg (by omega), last_f L hwL (by omega), Option.bind_some, Option.bind_some, if_pos (by omega), if_pos (by omega), Int.toNat_natCast, last_f (L.take q) (wf_take hwL q) (by omega), Option.bind_some, List.nil_append,
    if_pos (by simp only [List.length_nil]; omega), Option.bind_some, Option.bind_some, if_pos (by omega), last_f _ (wf_append (lastS_wf (wf_take hwL q)) (wf_drop hwL q)) (by rw [List.length_append]; omega), Option.bind_some, if_pos rfl, e,
    changes_f (lastS L) (by omega) 1000 (by omega), Option.bind_some, if_pos rfl, last_f (lastS L) (lastS_wf hwL) (by omega), Option.bind_some, lastS_idem, changes_f (lastS L) (by omega) 1000 (by omega), Option.bind_some]
end Go.Proofs.Ytfccepkpbnalmaa.PChgCompacts
