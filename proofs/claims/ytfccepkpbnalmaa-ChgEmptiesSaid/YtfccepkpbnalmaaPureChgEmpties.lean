import Derived.Test.YtfccepkpbnalmaaQChgEmptiesx4
import Derived.Test.YtfccepkpbnalmaaPChgEmptiesx0
import Derived.Test.YtfccepkpbnalmaaPChgEmptiesx1
import Derived.Test.YtfccepkpbnalmaaPChgEmptiesx2
import Derived.Test.YtfccepkpbnalmaaPChgEmptiesx3
/- The plain law of ChgEmpties. -/
namespace Go.Proofs.Ytfccepkpbnalmaa.PChgEmpties
open Go.RowKit Go.Proofs.YtfccepkpbnalmaaW.PrintWords Go.Proofs.YtfccepkpbnalmaaW.PrintLast
theorem wrap_small {i : Int} (h0 : 0 ≤ i) (h : i ≤ 9223372036854775807) : wrap64 i = i := by unfold wrap64; omega
theorem changes_same (l : List S30) (hl : l.length ≤ 9223372036854775800) (d : Nat) : ∀ (k : Nat) (i : Int), 0 ≤ i → (l.length : Int) - i = d → d < k → tidemillref12_Changes.l0 k l l i = some true := by
  induction d with
  | zero =>
    intro k i h0 hd hk
    obtain ⟨k, rfl⟩ : ∃ m, k = m + 1 := ⟨k - 1, by omega⟩
    simp only [tidemillref12_Changes.l0]; rw [if_neg (by omega)]
  | succ d ih =>
    intro k i h0 hd hk
    obtain ⟨k, rfl⟩ : ∃ m, k = m + 1 := ⟨k - 1, by omega⟩
    simp only [tidemillref12_Changes.l0]
    rw [if_pos (by omega), if_pos h0, if_pos (by omega), if_neg (by simp), wrap_small (by omega) (by omega)]
    exact ih k (i + 1) (by omega) (by omega) (by omega)
theorem changes_f (l : List S30) (hl : l.length ≤ 9223372036854775800) (k : Nat) (hk : l.length < k) : tidemillref12_Changes.f k l l = some true := by
  unfold tidemillref12_Changes.f
  rw [if_pos rfl]
  exact changes_same l hl l.length k 0 (by omega) (by omega) hk
theorem shown4 {k : Nat} (h : 4 ≤ k) : tidemilllaw15_shown.f k = some true := at_rounds tidemilllaw15_shown.mono (k := 4) h (by decide +kernel)
def lastS (l : List S30) : List S30 := (Chg.lastM (l.map tup30)).map unt30
theorem tu_id (l : List Chg.T5) : (l.map unt30).map tup30 = l := by
  rw [List.map_map]; exact (List.map_congr_left fun x _ => rfl).trans (List.map_id _)
theorem ut_id (l : List S30) : (l.map tup30).map unt30 = l := by
  rw [List.map_map]; exact (List.map_congr_left fun x _ => rfl).trans (List.map_id _)
theorem map_inj {a b : List S30} (h : a.map tup30 = b.map tup30) : a = b := by rw [← ut_id a, h, ut_id]
theorem lastS_tup (l : List S30) : (lastS l).map tup30 = Chg.lastM (l.map tup30) := tu_id _
def wfS (l : List S30) : Prop := ∀ x ∈ l, Chg.wfB (tup30 x) = true
theorem lastS_mem {l : List S30} {x : S30} (h : x ∈ lastS l) : x ∈ l := by
  obtain ⟨y, hy, rfl⟩ := List.mem_map.1 h
  have h2 := (Chg.lastAt_kp (((Chg.lastM_spec _).2 y).1 hy).1).2
  obtain ⟨z, hz, rfl⟩ := List.mem_map.1 h2
  exact hz
theorem lastS_wf {l : List S30} (h : wfS l) : wfS (lastS l) := fun x hx => h x (lastS_mem hx)
theorem lastS_len (l : List S30) : (lastS l).length ≤ l.length := by
  unfold lastS
  rw [List.length_map]
  exact Nat.le_trans Chg.rises_len_le (Nat.le_of_eq (List.length_map _))
theorem last_f (l : List S30) (hw : wfS l) (hn : l.length ≤ 1000000) : chg_Last.f l = some (lastS l) := by
  unfold chg_Last.f Chg.lastF
  have hall : (l.map tup30).all Chg.wfB = true := List.all_eq_true.2 fun x hx => by
    obtain ⟨y, hy, rfl⟩ := List.mem_map.1 hx
    exact hw y hy
  rw [if_pos ⟨hall, hn⟩]; rfl
theorem few_f (l : List S30) : tidemilllaw15_few.f l = some (l.take 300) := by
  unfold tidemilllaw15_few.f
  split
  · rw [if_pos (by omega)]
  · rw [List.take_of_length_le (by omega)]
theorem few_len (l : List S30) : (l.take 300).length ≤ 300 := by rw [List.length_take]; omega
theorem wf_take {l : List S30} (h : wfS l) (n : Nat) : wfS (l.take n) := fun x hx => h x (List.mem_of_mem_take hx)
theorem wf_drop {l : List S30} (h : wfS l) (n : Nat) : wfS (l.drop n) := fun x hx => h x (List.mem_of_mem_drop hx)
theorem wf_append {a b : List S30} (h : wfS a) (g : wfS b) : wfS (a ++ b) := fun x hx => (List.mem_append.1 hx).elim (h x) (g x)
theorem wf_of (l : List S30) (h : ∀ x ∈ l, (Lit.int .i64 x.f0).wf = true ∧ (Lit.int .i64 x.f1).wf = true ∧ (Lit.int .i64 x.f2).wf = true ∧ (Lit.int .i64 x.f3).wf = true ∧ True) : wfS l := fun x hx => by
  obtain ⟨h0, h1, h2, _⟩ := h x hx
  show ((Lit.int .i64 x.f0).wf && ((Lit.int .i64 x.f1).wf && (Lit.int .i64 x.f2).wf)) = true
  rw [h0, h1, h2]; rfl
def setD (c : Chg.T5) : Chg.T5 := (c.1, c.2.1, c.2.2.1, c.2.2.2.1, true)
def delsM (key : Int) (l : List Chg.T5) : List Chg.T5 := (l.filter fun c => decide (c.1 = key)).map setD
theorem dels_mem {key : Int} {l : List Chg.T5} {d : Chg.T5} (h : d ∈ delsM key l) : d.1 = key ∧ Chg.dl d = true := by
  obtain ⟨c, hc, rfl⟩ := List.mem_map.1 h
  have h1 : c.1 = key := by simpa using (List.mem_filter.1 hc).2
  exact ⟨h1, rfl⟩
theorem empties (key : Int) (l : List Chg.T5) : Chg.lastM (l ++ delsM key l) = (Chg.lastM l).filter fun c => decide (c.1 ≠ key) := by
  refine (Chg.lastM_uniq ((Chg.lastM_spec l).1.sublist List.filter_sublist) fun c => ?_).symm
  rw [List.mem_filter, (Chg.lastM_spec l).2, Chg.lastAt_append]
  have hk : (Chg.kp c).1 = c.1 := rfl
  by_cases h : c.1 = key
  · constructor
    · rintro ⟨_, h2⟩
      simp [h] at h2
    · rintro ⟨h1, h2⟩
      exfalso
      cases hd : Chg.lastAt (delsM key l) (Chg.kp c) with
      | some e =>
        rw [hd] at h1
        obtain rfl : e = c := by simpa using h1
        rw [(dels_mem (Chg.lastAt_kp hd).2).2] at h2; cases h2
      | none =>
        rw [hd, Option.none_or] at h1
        have hc := (Chg.lastAt_kp h1).2
        have hm : setD c ∈ delsM key l := List.mem_map.2 ⟨c, List.mem_filter.2 ⟨hc, by simpa using h⟩, rfl⟩
        exact Chg.lastAt_none.1 hd _ hm rfl
  · have hn : Chg.lastAt (delsM key l) (Chg.kp c) = none := Chg.lastAt_none.2 fun d hd e => h (by rw [← hk, ← e]; exact (dels_mem hd).1)
    rw [hn, Option.none_or]
    simp [h]
def delsS (key : Int) (l : List S30) : List S30 := (l.filter fun c => decide (c.f0 = key)).map fun c => ⟨c.f0, c.f1, c.f2, c.f3, true⟩
theorem dels_tup (key : Int) (l : List S30) : (delsS key l).map tup30 = delsM key (l.map tup30) := by
  unfold delsS delsM
  rw [List.map_map, List.filter_map, List.map_map]; rfl
theorem emptiesS (key : Int) (l : List S30) : lastS (l ++ delsS key l) = (lastS l).filter fun c => decide (c.f0 ≠ key) := by
  apply map_inj
  rw [lastS_tup, List.map_append, dels_tup, empties, ← lastS_tup, List.filter_map]; rfl
theorem take_snoc (l : List S30) (i : Nat) (h : i < l.length) : l.take (i + 1) = l.take i ++ [rd_T30 l (i : Int)] := by
  rw [List.take_succ_eq_append_getElem h]
  unfold rd_T30
  rw [Int.toNat_natCast, List.getD_eq_getElem?_getD, List.getElem?_eq_getElem h]; rfl
theorem dels_snoc (key : Int) (l : List S30) (x : S30) : delsS key (l ++ [x]) = delsS key l ++ if x.f0 = key then [⟨x.f0, x.f1, x.f2, x.f3, true⟩] else [] := by
  unfold delsS
  rw [List.filter_append, List.map_append]
  by_cases h : x.f0 = key
  · rw [if_pos h, List.filter_cons_of_pos (by simpa using h)]; rfl
  · rw [if_neg h, List.filter_cons_of_neg (by simpa using h)]; rfl
theorem dels_len (key : Int) (l : List S30) : (delsS key l).length ≤ l.length := by
  unfold delsS
  rw [List.length_map]; exact List.length_filter_le _ _
theorem wrap_up (j : Nat) (h : j ≤ 300) : wrap64 ((j : Int) + 1) = ((j + 1 : Nat) : Int) := by
  rw [wrap_small (by omega) (by omega)]; rfl
theorem loop1 (key : Int) (a b : List S30) (ha : a.length ≤ 300) (hb : b = a.filter fun c => decide (c.f0 ≠ key)) :
    ∀ (d i k : Nat), a.length - i = d → i ≤ a.length → d + 400 < k → tidemilllaw15_ChgEmpties.l1 k key true a b ((a.take i).filter fun c => decide (c.f0 ≠ key)) (i : Int) = some true := by
  intro d
  induction d with
  | zero =>
    intro i k hd hi hk
    obtain ⟨k, rfl⟩ : ∃ j, k = j + 1 := ⟨k - 1, by omega⟩
    have hbl : b.length ≤ a.length := by rw [hb]; exact List.length_filter_le _ _
    rw [tidemilllaw15_ChgEmpties.l1, if_neg (by omega), if_pos rfl, List.take_of_length_le (by omega), ← hb, changes_f b (by omega) k (by omega), Option.bind_some]
  | succ d ih =>
    intro i k hd hi hk
    obtain ⟨k, rfl⟩ : ∃ j, k = j + 1 := ⟨k - 1, by omega⟩
    have hl : ((a.take i).filter fun c => decide (c.f0 ≠ key)).length ≤ 300 := Nat.le_trans (List.length_filter_le _ _) (by rw [List.length_take]; omega)
    have hn := ih (i + 1) k (by omega) (by omega) (by omega)
    rw [take_snoc a i (by omega), List.filter_append] at hn
    rw [tidemilllaw15_ChgEmpties.l1, if_pos (by omega), if_pos (by omega), wrap_up i (by omega)]
    by_cases h : (rd_T30 a (i : Int)).f0 = key
    · rw [if_pos h]
      rw [List.filter_cons_of_neg (by simpa using h), List.filter_nil, List.append_nil] at hn
      exact hn
    · rw [if_neg h, if_pos (by omega)]
      rw [List.filter_cons_of_pos (by simpa using h), List.filter_nil] at hn
      exact hn
theorem loop0 (key : Int) (L : List S30) (hL : L.length ≤ 300) (hw : wfS L) :
    ∀ (d i k : Nat), L.length - i = d → i ≤ L.length → d + 1000 < k → tidemilllaw15_ChgEmpties.l0 k L key true (L ++ delsS key (L.take i)) (i : Int) = some true := by
  intro d
  induction d with
  | zero =>
    intro i k hd hi hk
    obtain ⟨k, rfl⟩ : ∃ j, k = j + 1 := ⟨k - 1, by omega⟩
    have hdl := dels_len key L
    have hwd : wfS (delsS key L) := fun x hx => by
      obtain ⟨c, hc, rfl⟩ := List.mem_map.1 hx
      exact hw c (List.mem_filter.1 hc).1
    have hll := lastS_len L
    rw [tidemilllaw15_ChgEmpties.l0, if_neg (by omega), List.take_of_length_le (by omega), last_f L hw (by omega), Option.bind_some, last_f _ (wf_append hw hwd) (by rw [List.length_append]; omega), Option.bind_some]
    exact loop1 key (lastS L) _ (by omega) (emptiesS key L) (lastS L).length 0 k (by omega) (by omega) (by omega)
  | succ d ih =>
    intro i k hd hi hk
    obtain ⟨k, rfl⟩ : ∃ j, k = j + 1 := ⟨k - 1, by omega⟩
    have hdl := dels_len key (L.take i)
    have hlt : (L.take i).length ≤ 300 := by rw [List.length_take]; omega
    have hn := ih (i + 1) k (by omega) (by omega) (by omega)
    rw [take_snoc L i (by omega), dels_snoc] at hn
    rw [tidemilllaw15_ChgEmpties.l0, if_pos (by omega), if_pos (by omega), wrap_up i (by omega)]
    by_cases h : (rd_T30 L (i : Int)).f0 = key
    · rw [if_pos h, if_pos (by rw [List.length_append]; omega)]
      rw [if_pos h, ← List.append_assoc] at hn
      exact hn
    · rw [if_neg h]
      rw [if_neg h, List.append_nil] at hn
      exact hn
theorem pure_ (l : List S30) (a1 : Int) (hw : wfS l) : tidemilllaw15_ChgEmpties.f 2000 l a1 = some true := by
  unfold tidemilllaw15_ChgEmpties.f
  rw [shown4 (by decide), Option.bind_some, few_f, Option.bind_some, Option.bind_some]
  have hwL := wf_take hw 300
  have hL := few_len l
  generalize l.take 300 = L at hwL hL ⊢
  have := loop0 a1 L hL hwL L.length 0 2000 (by omega) (by omega) (by omega)
  rw [if_pos (by simp only [List.length_nil]; omega), List.nil_append]
  have e : delsS a1 (L.take 0) = [] := rfl
  rw [e, List.append_nil] at this
  exact this
end Go.Proofs.Ytfccepkpbnalmaa.PChgEmpties
