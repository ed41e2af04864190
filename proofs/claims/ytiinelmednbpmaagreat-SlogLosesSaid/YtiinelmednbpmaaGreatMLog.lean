import Derived.Test.YtiinelmednbpmaaGreatMSlot
import Derived.Test.YtiinelmednbpmaaGreatMQuor
import Derived.Test.YtiinelmednbpmaaGreatMState
import Derived.Laws.LoneSync
import Derived.StillTailTactics
/- Plain: what a log of nodes does by definition. -/
namespace Go.Proofs.YtiinelmednbpmaaGreat.Slog
open Go.Proofs.YtiinelmednbpmaaGreat.Slot Go.Proofs.YtiinelmednbpmaaGreat.Quor
structure LS where
  st : List S3
  opn : Bool
  ep : Int
  row : List (List Int)
/-- What a node becomes, that is asked if it is reached. -/
def turnI (f : S3 → Int × S3) (rs : List Bool) (i : Nat) (s : S3) : S3 := if rs.getD i false then (f s).2 else s
def wellI (f : S3 → Int × S3) (rs : List Bool) (i : Nat) (s : S3) : Bool := rs.getD i false && decide ((f s).1 = 0)
def askSt (f : S3 → Int × S3) (rs : List Bool) (st : List S3) : List S3 := st.mapIdx (turnI f rs)
def wells (f : S3 → Int × S3) (rs : List Bool) (st : List S3) : List Bool := st.mapIdx (wellI f rs)
def askN (f : S3 → Int × S3) (rs : List Bool) (st : List S3) : Nat := (wells f rs st).countP id
def needN (n : Nat) : Nat := n / 2 + 1
/-- A node's cells by rising slots. -/
def sortC (m : List B3) : List B3 := m.foldr insC []
def repI (f : S3 → Int × S3) (rs : List Bool) (i : Nat) (s : S3) : Option (List B3) := if wellI f rs i s then some (sortC (f s).2.2.1) else none
def repF (f : S3 → Int × S3) (rs : List Bool) (st : List S3) : List (List B3) := (st.mapIdx (repI f rs)).filterMap id
def padTo (n : Nat) (l : List (List Int)) : List (List Int) := l ++ List.replicate (n - l.length) []
def rowF : List B3 → List (List Int) → List (List Int)
  | [], acc => acc
  | c :: r, acc => rowF r (padTo c.1.toNat acc ++ [c.2.2])
def writesF (room ep : Int) (rs : List Bool) : Nat → List (List Int) → List S3 → Bool × List S3
  | _, [], st => (true, st)
  | k, b :: r, st =>
    if needN st.length ≤ askN (fun s => writeR room s ep k b) rs st then writesF room ep rs (k + 1) r (askSt (fun s => writeR room s ep k b) rs st)
    else (false, askSt (fun s => writeR room s ep k b) rs st)
def openF (room : Int) (rs : List Bool) (s : LS) : Int × LS :=
  if needN s.st.length ≤ askN (fun x => sealR room x (s.ep + 1)) rs s.st then
    if (writesF room (s.ep + 1) rs 0 (rowF (mergeM (repF (fun x => sealR room x (s.ep + 1)) rs s.st).flatten) []) (askSt (fun x => sealR room x (s.ep + 1)) rs s.st)).1 then
      (0, ⟨(writesF room (s.ep + 1) rs 0 (rowF (mergeM (repF (fun x => sealR room x (s.ep + 1)) rs s.st).flatten) []) (askSt (fun x => sealR room x (s.ep + 1)) rs s.st)).2, true, s.ep + 1, rowF (mergeM (repF (fun x => sealR room x (s.ep + 1)) rs s.st).flatten) []⟩)
    else (8, ⟨(writesF room (s.ep + 1) rs 0 (rowF (mergeM (repF (fun x => sealR room x (s.ep + 1)) rs s.st).flatten) []) (askSt (fun x => sealR room x (s.ep + 1)) rs s.st)).2, false, s.ep + 1, s.row⟩)
  else (8, ⟨askSt (fun x => sealR room x (s.ep + 1)) rs s.st, false, s.ep + 1, s.row⟩)
def appendF (room : Int) (b : List Int) (rs : List Bool) (s : LS) : Int × Int × LS :=
  if s.opn = false then (0, 8, s)
  else if b.length = 0 ∨ 2048 < b.length then (0, 2, s)
  else if 4096 ≤ s.row.length then (0, 3, s)
  else if needN s.st.length ≤ askN (fun x => writeR room x s.ep s.row.length b) rs s.st then
    ((s.row.length : Int), 0, ⟨askSt (fun x => writeR room x s.ep s.row.length b) rs s.st, true, s.ep, s.row ++ [b]⟩)
  else (0, 8, ⟨askSt (fun x => writeR room x s.ep s.row.length b) rs s.st, false, s.ep, s.row⟩)
theorem askSt_len (f : S3 → Int × S3) (rs : List Bool) (st : List S3) : (askSt f rs st).length = st.length := by unfold askSt; simp
theorem askSt_get (f : S3 → Int × S3) (rs : List Bool) (st : List S3) (i : Nat) : (askSt f rs st)[i]? = (st[i]?).map (turnI f rs i) := by
  unfold askSt; rw [List.getElem?_mapIdx]
theorem wells_get (f : S3 → Int × S3) (rs : List Bool) (st : List S3) (i : Nat) : (wells f rs st)[i]? = (st[i]?).map (wellI f rs i) := by
  unfold wells; rw [List.getElem?_mapIdx]
theorem wells_len (f : S3 → Int × S3) (rs : List Bool) (st : List S3) : (wells f rs st).length = st.length := by unfold wells; simp
/-- The nodes, once the first k have been asked. -/
def part (f : S3 → Int × S3) (rs : List Bool) (st : List S3) (k : Nat) : List S3 := (askSt f rs st).take k ++ st.drop k
theorem part_zero (f : S3 → Int × S3) (rs : List Bool) (st : List S3) : part f rs st 0 = st := by unfold part; simp
theorem part_all (f : S3 → Int × S3) (rs : List Bool) (st : List S3) : part f rs st st.length = askSt f rs st := by
  unfold part; rw [List.take_of_length_le (by rw [askSt_len]; exact Nat.le_refl _), List.drop_length, List.append_nil]
theorem part_len (f : S3 → Int × S3) (rs : List Bool) (st : List S3) (k : Nat) : (part f rs st k).length = st.length := by
  unfold part; rw [List.length_append, List.length_take, List.length_drop, askSt_len]; omega
theorem part_get (f : S3 → Int × S3) (rs : List Bool) (st : List S3) (k i : Nat) : (part f rs st k)[i]? = if i < k then (st[i]?).map (turnI f rs i) else st[i]? := by
  unfold part
  by_cases h : i < k
  · rw [if_pos h]
    by_cases h2 : i < st.length
    · rw [List.getElem?_append_left (by rw [List.length_take, askSt_len]; omega), List.getElem?_take, if_pos h, askSt_get]
    · rw [List.getElem?_append_right (by rw [List.length_take, askSt_len]; omega), List.getElem?_eq_none (by rw [List.length_drop]; omega), List.getElem?_eq_none (by omega)]; rfl
  · rw [if_neg h]
    by_cases h2 : k ≤ st.length
    · rw [List.getElem?_append_right (by rw [List.length_take, askSt_len]; omega), List.length_take, askSt_len, List.getElem?_drop]
      congr 1; omega
    · rw [List.getElem?_eq_none (by rw [List.length_append, List.length_take, List.length_drop, askSt_len]; omega), List.getElem?_eq_none (by omega)]
theorem part_succ (f : S3 → Int × S3) (rs : List Bool) (st : List S3) (k : Nat) (x : S3) (hx : st[k]? = some x) : part f rs st (k + 1) = (part f rs st k).set k (turnI f rs k x) := by
  apply List.ext_getElem?
  intro i
  have hk := (List.getElem?_eq_some_iff.1 hx).1
  rw [part_get, List.getElem?_set, part_len, part_get]
  by_cases h : k = i
  · subst h
    rw [if_pos (by omega), if_pos rfl, if_pos hk, hx]; rfl
  · rw [if_neg h]
    by_cases h2 : i < k
    · rw [if_pos (by omega), if_pos h2]
    · rw [if_neg (by omega), if_neg h2]
def cnt (f : S3 → Int × S3) (rs : List Bool) (st : List S3) (k : Nat) : Nat := ((wells f rs st).take k).countP id
theorem cnt_zero (f : S3 → Int × S3) (rs : List Bool) (st : List S3) : cnt f rs st 0 = 0 := by unfold cnt; simp
theorem cnt_all (f : S3 → Int × S3) (rs : List Bool) (st : List S3) : cnt f rs st st.length = askN f rs st := by
  unfold cnt askN; rw [List.take_of_length_le (by rw [wells_len]; exact Nat.le_refl _)]
theorem cnt_succ (f : S3 → Int × S3) (rs : List Bool) (st : List S3) (k : Nat) (x : S3) (hx : st[k]? = some x) : cnt f rs st (k + 1) = cnt f rs st k + if wellI f rs k x then 1 else 0 := by
  unfold cnt
  have hw : (wells f rs st)[k]? = some (wellI f rs k x) := by rw [wells_get, hx]; rfl
  rw [take_snoc'' hw, List.countP_append]
  cases wellI f rs k x <;> simp
theorem cnt_le (f : S3 → Int × S3) (rs : List Bool) (st : List S3) (k : Nat) : cnt f rs st k ≤ k := by
  unfold cnt
  have := List.countP_le_length (p := id) (l := (wells f rs st).take k)
  rw [List.length_take] at this; omega
def reps (f : S3 → Int × S3) (rs : List Bool) (st : List S3) (k : Nat) : List (List B3) := ((st.mapIdx (repI f rs)).take k).filterMap id
theorem reps_zero (f : S3 → Int × S3) (rs : List Bool) (st : List S3) : reps f rs st 0 = [] := by unfold reps; simp
theorem reps_all (f : S3 → Int × S3) (rs : List Bool) (st : List S3) : reps f rs st st.length = repF f rs st := by
  unfold reps repF; rw [List.take_of_length_le (by simp)]
theorem reps_succ (f : S3 → Int × S3) (rs : List Bool) (st : List S3) (k : Nat) (x : S3) (hx : st[k]? = some x) : reps f rs st (k + 1) = reps f rs st k ++ if wellI f rs k x then [sortC (f x).2.2.1] else [] := by
  unfold reps
  have hw : (st.mapIdx (repI f rs))[k]? = some (repI f rs k x) := by rw [List.getElem?_mapIdx, hx]; rfl
  rw [take_snoc'' hw, List.filterMap_append]
  unfold repI
  cases wellI f rs k x <;> simp
theorem rel_sortC : ∀ {m : List B3}, Once m → Rel m (sortC m)
  | [], _ => Rel.nil
  | c :: r, h => by
    obtain ⟨h1, h2⟩ := List.pairwise_cons.1 h
    have := (rel_sortC h2).put c
    have e : putC c r = c :: r := by
      unfold putC
      rw [List.filter_eq_self.2 (fun x hx => by have := h1 x hx; simp; exact fun e => this e.symm)]
    rw [e] at this
    exact this
theorem all_sortC {m : List B3} {out : List C4} (h : Once m) (ha : IsAll m out) : out.map C4.c3 = sortC m := (rel_sortC h).all ha
theorem padTo_len (n : Nat) (l : List (List Int)) : (padTo n l).length = max n l.length := by unfold padTo; simp; omega
end Go.Proofs.YtiinelmednbpmaaGreat.Slog
/- A log of nodes in memory. -/
namespace Go.Proofs.YtiinelmednbpmaaGreat.Slog
open Go.RowKit Go.Maps Go.Proofs.YtiinelmednbpmaaGreatW.PrintWords Go.Proofs.YtiinelmednbpmaaGreatW.PrintMore Go.Proofs.YtiinelmednbpmaaGreat.Row Go.Proofs.YtiinelmednbpmaaGreat.Cut Go.Proofs.YtiinelmednbpmaaGreat.DiskM Go.Proofs.YtiinelmednbpmaaGreat.Quor Go.Proofs.YtiinelmednbpmaaGreat.Slot
open Go.Proofs.YtiinelmednbpmaaGreat.Crc (KB)
structure RB where
  A : Option Addr
  c : Nat
  by_ : List Int
abbrev RB.v (z : RB) : Value := .slice z.A z.by_.length z.c
/-- A row of payloads: the slices lie in vr's block, their bytes in blocks of the program's own. -/
def RowB (w : World) (base : Nat) (ok : Nat → Prop) (vr : Value) (row : List (List Int)) : Prop :=
  ∃ zs : List RB, Row w base 32 vr (zs.map RB.v) ∧ zs.map RB.by_ = row ∧ ∀ z ∈ zs, Row w base 5 z.v (nums .u8 z.by_) ∧ ∀ k, z.v.ownBlock = some k → ok k
theorem RowB.turn {w w' : World} {base : Nat} {ok ok' : Nat → Prop} {vr : Value} {row : List (List Int)} (h : RowB w base ok vr row) (hm : ∀ k, ok k ∨ vr.ownBlock = some k → k < w.heap.size → (∃ cs ty, w.heap[k]? = some (.cells cs ty (0, 0)) ∧ (ty = 5 ∨ ty = 32)) → w'.heap[k]? = w.heap[k]?) (hok : ∀ k, ok k → k < w.heap.size → ok' k) : RowB w' base ok' vr row := by
  obtain ⟨zs, h1, h2, h3⟩ := h
  refine ⟨zs, h1.move fun k hk => ?_, h2, fun z hz => ?_⟩
  · obtain ⟨_, hlt, cur, hc⟩ := h1.lt k hk
    exact hm k (.inr hk) hlt ⟨_, _, hc, .inr rfl⟩
  · obtain ⟨hr, ho⟩ := h3 z hz
    refine ⟨hr.move fun k hk => ?_, fun k hk => hok k (ho k hk) (hr.lt k hk).2.1⟩
    obtain ⟨_, hlt, cur, hc⟩ := hr.lt k hk
    exact hm k (.inl (ho k hk)) hlt ⟨_, _, hc, .inl rfl⟩
theorem RowB.lt {w : World} {base : Nat} {ok : Nat → Prop} {vr : Value} {row : List (List Int)} (h : RowB w base ok vr row) {k : Nat} (hk : vr.ownBlock = some k) : base ≤ k ∧ k < w.heap.size ∧ ∃ cur, w.heap[k]? = some (.cells cur 32 (0, 0)) := by
  obtain ⟨zs, h1, _⟩ := h
  exact h1.lt k hk
theorem RowB.below {w w' : World} {base : Nat} {ok : Nat → Prop} {vr : Value} {row : List (List Int)} (h : RowB w base ok vr row) (hb : Below w.heap.size w w') : RowB w' base ok vr row :=
  h.turn (fun k _ hlt _ => hb.block k hlt) (fun _ h _ => h)
theorem RowB.reads {w : World} {base : Nat} {ok : Nat → Prop} {vr : Value} {row : List (List Int)} (h : RowB w base ok vr row) : ∃ A c, vr = .slice A row.length c ∧ row.length ≤ c ∧ c ≤ 9223372036854775807 ∧ KB.C w A row.length row := by
  obtain ⟨zs, h1, rfl, h3⟩ := h
  obtain ⟨A, c, hv, hc, hm⟩ := h1.slice
  simp only [List.length_map] at hv hc ⊢
  refine ⟨A, c, hv, hc, hm, by rw [List.length_map], by omega, fun h0 => ?_⟩
  obtain ⟨z0, hz0⟩ : ∃ z, zs[0]? = some z := ⟨_, List.getElem?_eq_getElem h0⟩
  obtain ⟨g, hA, _, _⟩ := h1.cellAt hv 0 z0.v (by rw [List.getElem?_map, hz0]; rfl)
  refine ⟨_, hA, fun j p hj => ?_⟩
  rw [List.getElem?_map] at hj
  cases hz : zs[j]? with
  | none => rw [hz] at hj; cases hj
  | some z =>
    rw [hz] at hj
    obtain rfl := Option.some.inj hj
    obtain ⟨A2, c2, hv2, hc2, hC⟩ := (h3 z (List.mem_of_getElem? hz)).1.reads
    injection hv2 with e1 _ e2
    rw [← e1] at hC
    rw [← e2] at hc2
    refine ⟨[z.v], rfl, ⟨z.A, z.c, rfl, hc2, hC⟩, fun i u hu => ?_⟩
    obtain ⟨rfl, rfl⟩ : i = 0 ∧ u = z.v := by
      cases i with
      | zero => exact ⟨rfl, by simpa using hu.symm⟩
      | succ i => simp at hu
    obtain ⟨g', hA', hc', _⟩ := h1.cellAt hv j z.v (by rw [List.getElem?_map, hz]; rfl)
    rw [hA] at hA'
    injection hA' with hA'
    injection hA' with hg
    subst hg
    show w.cell? ((⟨g, 0, none⟩ : Addr).add (j * 1 + 0)) = _
    rw [add_plain]; simpa using hc'
theorem RowB.nil (w : World) (base : Nat) (ok : Nat → Prop) : RowB w base ok (.slice none 0 0) [] := ⟨[], Row.nil _ _ _, rfl, fun _ h => (by cases h)⟩
structure LB where
  lg : Nat
  vd : Value
  vn : Value
  vr : Value
  ns : List NB
def Core (x : LB) (k : Nat) : Prop := k = x.lg ∨ some k = x.vd.ownBlock ∨ some k = x.vn.ownBlock ∨ ∃ n ∈ x.ns, SN n k
def LF (x : LB) (k : Nat) : Prop := Core x k ∨ some k = x.vr.ownBlock
abbrev dptr (n : NB) : Value := .pointer (some ⟨n.gd, 0, none⟩)
abbrev nptr (n : NB) : Value := .pointer (some ⟨n.gn, 0, none⟩)
structure Lg (w0 w : World) (x : LB) (room : Int) (s : LS) : Prop where
  base : Below w0.heap.size w0 w
  low : w0.heap.size ≤ x.lg
  blk : w.heap[x.lg]? = some (.cells #[x.vd, x.vn, .bool s.opn, .int .i64 s.ep, x.vr] 63 (0, 0))
  dk : Row w w0.heap.size 64 x.vd (x.ns.map dptr)
  nd : Row w w0.heap.size 67 x.vn (x.ns.map nptr)
  vrn : ∀ k, x.vr.ownBlock = some k → ¬ Core x k
  row : RowB w w0.heap.size (fun k => ¬ LF x k) x.vr s.row
  rng : s.row.length ≤ 4096 ∧ ∀ b ∈ s.row, b.length ≤ 2048 ∧ ∀ y ∈ b, 0 ≤ y ∧ y ≤ 255
  len : s.st.length = x.ns.length
  few : x.ns.length ≤ 7
  each : ∀ (i : Nat) n t, x.ns[i]? = some n → s.st[i]? = some t → NS w0 w n n.gn n.gp room t
  apart : ∀ (i j : Nat) n n', i ≠ j → x.ns[i]? = some n → x.ns[j]? = some n' → ∀ k, SN n' k → n.P k ∧ ¬ SN n k
section
variable {w0 w w' : World} {x : LB} {room : Int} {s : LS} {n n' : NB} {t t' : S3} {g : Nat} {gd : Nat × (Nat → Prop)}
theorem NS.kind (h : NS w0 w n g gd room t) {k : Nat} (hk : SN n k) : ∃ o, w.heap[k]? = some o ∧ ∀ cs ty f, o = .cells cs ty f → ty ≠ 63 ∧ ty ≠ 64 ∧ ty ≠ 67 ∧ ty ≠ 113 ∧ ty ≠ 69 ∧ ty ≠ 71 := by
  obtain ⟨_, _, m, N, _⟩ := h
  have cell : ∀ {cs : Array Value} {ty : TypeId}, w.heap[k]? = some (.cells cs ty (0, 0)) → ty ≠ 63 ∧ ty ≠ 64 ∧ ty ≠ 67 ∧ ty ≠ 113 ∧ ty ≠ 69 ∧ ty ≠ 71 → ∃ o, w.heap[k]? = some o ∧ ∀ cs ty f, o = .cells cs ty f → ty ≠ 63 ∧ ty ≠ 64 ∧ ty ≠ 67 ∧ ty ≠ 113 ∧ ty ≠ 69 ∧ ty ≠ 71 :=
    fun hc ht => ⟨_, hc, fun cs ty f e => by injection e with _ e _; rw [← e]; exact ht⟩
  obtain ⟨ts, hb⟩ := N.seg.blk
  obtain ⟨xs, hr, _, _⟩ := N.seg.row
  rcases hk with e | rfl | rfl
  · rcases e with rfl | e | rfl | e
    · exact cell N.seg.disk.blk (by decide)
    · obtain ⟨_, _, cur, hc⟩ := N.seg.disk.row.lt k e.symm
      exact cell hc (by decide)
    · exact cell hb (by decide)
    · obtain ⟨_, _, cur, hc⟩ := hr.lt k e.symm
      exact cell hc (by decide)
  · exact cell N.blk (by decide)
  · obtain ⟨D, ⟨es, clock, hb, _⟩, _⟩ := N.map
    exact ⟨_, hb, fun cs ty f e => by cases e⟩
theorem NS.ne (h : NS w0 w n g gd room t) {k : Nat} {cs : Array Value} {ty : TypeId} {f : Nat × Nat} (hc : w.heap[k]? = some (.cells cs ty f)) (ht : ty = 63 ∨ ty = 64 ∨ ty = 67 ∨ ty = 113 ∨ ty = 69 ∨ ty = 71) : ¬ SN n k := by
  intro hk
  obtain ⟨o, ho, hh⟩ := NS.kind h hk
  rw [hc] at ho
  obtain ⟨h1, h2, h3, h4, h5, h6⟩ := hh _ _ _ (Option.some.inj ho).symm
  rcases ht with e | e | e | e | e | e
  · exact h1 e
  · exact h2 e
  · exact h3 e
  · exact h4 e
  · exact h5 e
  · exact h6 e
theorem Lg.at_ (h : Lg w0 w x room s) {i : Nat} (hn : x.ns[i]? = some n) : ∃ t, s.st[i]? = some t ∧ NS w0 w n n.gn n.gp room t := by
  have hi := (List.getElem?_eq_some_iff.1 hn).1
  have hl := h.len
  obtain ⟨t, ht⟩ : ∃ t, s.st[i]? = some t := ⟨_, List.getElem?_eq_getElem (by omega)⟩
  exact ⟨t, ht, h.each i n t hn ht⟩
theorem Lg.at' (h : Lg w0 w x room s) {i : Nat} (ht : s.st[i]? = some t) : ∃ n, x.ns[i]? = some n ∧ NS w0 w n n.gn n.gp room t := by
  have hi := (List.getElem?_eq_some_iff.1 ht).1
  have hl := h.len
  obtain ⟨n, hn⟩ : ∃ n, x.ns[i]? = some n := ⟨_, List.getElem?_eq_getElem (by omega)⟩
  exact ⟨n, hn, h.each i n t hn ht⟩
theorem Lg.mem (h : Lg w0 w x room s) (hn : n ∈ x.ns) : ∃ t, NS w0 w n n.gn n.gp room t := by
  obtain ⟨i, hi⟩ := List.mem_iff_getElem?.1 hn
  obtain ⟨t, _, N⟩ := h.at_ hi
  exact ⟨t, N⟩
theorem Lg.core_lt (h : Lg w0 w x room s) {k : Nat} (hk : Core x k) : w0.heap.size ≤ k ∧ k < w.heap.size := by
  rcases hk with rfl | e | e | ⟨n, hn, e⟩
  · exact ⟨h.low, (Array.getElem?_eq_some_iff.1 h.blk).1⟩
  · have := h.dk.lt k e.symm; exact ⟨this.1, this.2.1⟩
  · have := h.nd.lt k e.symm; exact ⟨this.1, this.2.1⟩
  · obtain ⟨t, N⟩ := h.mem hn
    exact ⟨N.low e, N.lt e⟩
theorem Lg.lf_lt (h : Lg w0 w x room s) {k : Nat} (hk : LF x k) : w0.heap.size ≤ k ∧ k < w.heap.size := by
  rcases hk with e | e
  · exact h.core_lt e
  · have := h.row.lt e.symm
    exact ⟨this.1, this.2.1⟩
theorem Lg.nlt (h : Lg w0 w x room s) {k : Nat} (hk : w.heap.size ≤ k ∨ k < w0.heap.size) : ¬ LF x k := fun e => by
  have := h.lf_lt e; omega
theorem Lg.below (h : Lg w0 w x room s) (hb : Below w.heap.size w w') : Lg w0 w' x room s :=
  ⟨below_then h.base h.base.size hb, h.low, (hb.block _ (Array.getElem?_eq_some_iff.1 h.blk).1).trans h.blk, h.dk.below hb, h.nd.below hb, h.vrn, h.row.below hb, h.rng, h.len, h.few, fun i n t hn ht => (h.each i n t hn ht).below hb, h.apart⟩
theorem Lg.cells (h : Lg w0 w x room s) : w.cell? ⟨x.lg, 0, none⟩ = some x.vd ∧ w.cell? ⟨x.lg, 1, none⟩ = some x.vn ∧ w.cell? ⟨x.lg, 2, none⟩ = some (.bool s.opn) ∧ w.cell? ⟨x.lg, 3, none⟩ = some (.int .i64 s.ep) ∧ w.cell? ⟨x.lg, 4, none⟩ = some x.vr ∧ ∀ i, w.frozen? ⟨x.lg, i, none⟩ = false :=
  ⟨(blk_cell h.blk 0).trans rfl, (blk_cell h.blk 1).trans rfl, (blk_cell h.blk 2).trans rfl, (blk_cell h.blk 3).trans rfl, (blk_cell h.blk 4).trans rfl, fun i => blk_frozen h.blk i⟩
def NB.wide (m : NB) (a b : Nat) : NB := { m with P := fun k => m.P k ∨ (a ≤ k ∧ k < b) }
def turnAt (ns : List NB) (i : Nat) (n' : NB) (a b : Nat) : List NB := ns.mapIdx fun j m => if j = i then n' else NB.wide m a b
theorem turnAt_len (ns : List NB) (i : Nat) (n' : NB) (a b : Nat) : (turnAt ns i n' a b).length = ns.length := by unfold turnAt; simp
theorem turnAt_get (ns : List NB) (i : Nat) (n' : NB) (a b j : Nat) : (turnAt ns i n' a b)[j]? = (ns[j]?).map fun m => if j = i then n' else NB.wide m a b := by
  unfold turnAt; rw [List.getElem?_mapIdx]
theorem turnAt_map {β : Type} (f : NB → β) (ns : List NB) (i : Nat) (n n' : NB) (a b : Nat) (hn : ns[i]? = some n) (hf : f n' = f n) (hw : ∀ m : NB, f (NB.wide m a b) = f m) : (turnAt ns i n' a b).map f = ns.map f := by
  apply List.ext_getElem?
  intro j
  rw [List.getElem?_map, List.getElem?_map, turnAt_get, Option.map_map]
  by_cases e : j = i
  · subst e
    rw [hn]; simp [hf]
  · cases ns[j]? with
    | none => rfl
    | some m => simp [e, hw]
theorem SN.wide {m : NB} {a b k : Nat} : SN (NB.wide m a b) k ↔ SN m k := Iff.rfl
theorem gp_parts {n n' : NB} (h : n'.gp = n.gp) : n'.gd = n.gd ∧ n'.P = n.P := ⟨congrArg Prod.fst h, congrArg Prod.snd h⟩
/-- Another node: what was made since is none of its cells' bytes. -/
theorem NS.other (M : NS w0 w n n.gn n.gp room t) (hb : Below w0.heap.size w0 w') (hsz : w.heap.size ≤ w'.heap.size) (hk : ∀ k, k < w.heap.size → (SN n k ∨ (¬ n.P k ∧ ∃ cs, w.heap[k]? = some (.cells cs 5 (0, 0)))) → w'.heap[k]? = w.heap[k]?) : NS w0 w' (NB.wide n w.heap.size w'.heap.size) n.gn (NB.wide n w.heap.size w'.heap.size).gp room t := by
  obtain ⟨q1, q2, m4, M4, q3⟩ := M
  refine ⟨rfl, rfl, m4, ?_, q3⟩
  have hk1 : ∀ k, SN n k → w'.heap[k]? = w.heap[k]? := fun k e => hk k (M4.lt e) (.inl e)
  obtain ⟨D, ⟨es, clock, hbm, F, hs, hDe⟩, hA⟩ := M4.map
  refine ⟨M4.seg.keep hb fun k hs => hk1 k (.inl hs), M4.lown, M4.lowm, (hk1 _ (.inr (.inl rfl))).trans M4.blk, ⟨D, ⟨es, clock, (hk1 _ (.inr (.inr rfl))).trans hbm, F, hs, hDe⟩, hA⟩, M4.once, fun z hz => ?_, M4.rng, M4.rngc, fun k hk => ?_⟩
  · obtain ⟨hr, hv⟩ := M4.rows z hz
    refine ⟨hr.move fun k e => hk k (hr.lt k e).2.1 (.inr ⟨(hv k e).2, (hr.lt k e).2.2⟩), fun k e => ⟨(hv k e).1, fun hp => ?_⟩⟩
    rcases hp with hp | hp
    · exact (hv k e).2 hp
    · have := (hr.lt k e).2.1; omega
  · rcases hk with hk | hk
    · exact Nat.lt_of_lt_of_le (M4.pb k hk) hsz
    · exact hk.2
theorem Lg.node (h : Lg w0 w x room s) {i : Nat} (hn : x.ns[i]? = some n) (N : NS w0 w' n' n.gn n.gp room t') (T : Stp w w' (SN n) (SN n')) :
    Lg w0 w' { x with ns := turnAt x.ns i n' w.heap.size w'.heap.size } room { s with st := s.st.set i t' } ∧ Stp w w' (LF x) (LF { x with ns := turnAt x.ns i n' w.heap.size w'.heap.size }) := by
  have hi := (List.getElem?_eq_some_iff.1 hn).1
  have hl := h.len
  obtain ⟨t, ht, N0⟩ := h.at_ hn
  have hmem : n ∈ x.ns := List.mem_of_getElem? hn
  have e1 : n'.gn = n.gn := N.1
  obtain ⟨e2, e3⟩ := gp_parts N.2.1
  have hin : ∀ m, m ∈ turnAt x.ns i n' w.heap.size w'.heap.size → m = n' ∨ ∃ m0, m0 ∈ x.ns ∧ ∀ k, SN m k ↔ SN m0 k := by
    intro m hm
    obtain ⟨j, hj⟩ := List.mem_iff_getElem?.1 hm
    rw [turnAt_get] at hj
    cases hx : x.ns[j]? with
    | none => rw [hx] at hj; cases hj
    | some m0 =>
      rw [hx] at hj
      by_cases e : j = i
      · simp [e] at hj; exact .inl hj.symm
      · simp [e] at hj
        exact .inr ⟨m0, List.mem_of_getElem? hx, fun k => by rw [← hj]; exact SN.wide⟩
  have hcore : ∀ k, Core { x with ns := turnAt x.ns i n' w.heap.size w'.heap.size } k → Core x k ∨ w.heap.size ≤ k := by
    rintro k (e | e | e | ⟨m, hm, e⟩)
    · exact .inl (.inl e)
    · exact .inl (.inr (.inl e))
    · exact .inl (.inr (.inr (.inl e)))
    · rcases hin m hm with rfl | ⟨m0, hm0, hmm⟩
      · exact (T.new k e).imp (fun e => .inr (.inr (.inr ⟨n, hmem, e⟩))) id
      · exact .inl (.inr (.inr (.inr ⟨m0, hm0, (hmm k).1 e⟩)))
  have hkeep : ∀ k, k < w.heap.size → ¬ SN n k → w'.heap[k]? = w.heap[k]? := T.keep
  have hblk := hkeep x.lg (Array.getElem?_eq_some_iff.1 h.blk).1 (NS.ne N0 h.blk (.inl rfl))
  have hdk : ∀ k, x.vd.ownBlock = some k → w'.heap[k]? = w.heap[k]? := fun k hk => by
    obtain ⟨_, hlt, cur, hc⟩ := h.dk.lt k hk
    exact hkeep k hlt (NS.ne N0 hc (.inr (.inl rfl)))
  have hnd : ∀ k, x.vn.ownBlock = some k → w'.heap[k]? = w.heap[k]? := fun k hk => by
    obtain ⟨_, hlt, cur, hc⟩ := h.nd.lt k hk
    exact hkeep k hlt (NS.ne N0 hc (.inr (.inr (.inl rfl))))
  refine ⟨⟨N.all, h.low, hblk.trans h.blk, ?_, ?_, ?_, ?_, h.rng, ?_, ?_, ?_, ?_⟩, ?_⟩
  · show Row w' w0.heap.size _ x.vd ((turnAt x.ns i n' w.heap.size w'.heap.size).map dptr)
    rw [turnAt_map dptr _ _ _ _ _ _ hn (by show Value.pointer _ = Value.pointer _; rw [e2]) (fun _ => rfl)]
    exact h.dk.move hdk
  · show Row w' w0.heap.size _ x.vn ((turnAt x.ns i n' w.heap.size w'.heap.size).map nptr)
    rw [turnAt_map nptr _ _ _ _ _ _ hn (by show Value.pointer _ = Value.pointer _; rw [e1]) (fun _ => rfl)]
    exact h.nd.move hnd
  · intro k hk e
    rcases hcore k e with e | e
    · exact h.vrn k hk e
    · have := (h.row.lt hk).2.1; omega
  · refine h.row.turn (fun k hk hlt _ => hkeep k hlt fun e => ?_) (fun k hk hlt e => ?_)
    · rcases hk with hk | hk
      · exact hk (.inl (.inr (.inr (.inr ⟨n, hmem, e⟩))))
      · exact h.vrn k hk (.inr (.inr (.inr ⟨n, hmem, e⟩)))
    · rcases e with e | e
      · rcases hcore k e with e | e
        · exact hk (.inl e)
        · omega
      · exact hk (.inr e)
  · show (s.st.set i t').length = (turnAt x.ns i n' w.heap.size w'.heap.size).length
    rw [List.length_set, turnAt_len]; exact hl
  · show (turnAt x.ns i n' w.heap.size w'.heap.size).length ≤ 7
    rw [turnAt_len]; exact h.few
  · intro j m u hm hu
    simp only at hm hu
    rw [turnAt_get] at hm
    rw [List.getElem?_set] at hu
    by_cases e : i = j
    · subst e
      rw [hn] at hm
      simp only [Option.map_some, if_true] at hm
      rw [if_pos rfl, if_pos (by omega)] at hu
      obtain rfl := Option.some.inj hm
      obtain rfl := Option.some.inj hu
      rw [e1, show n'.gp = n.gp from N.2.1]; exact N
    · rw [if_neg e] at hu
      obtain ⟨m0, hm0, M⟩ := h.at' hu
      rw [hm0] at hm
      have e' : ¬ j = i := fun h => e h.symm
      simp only [Option.map_some, if_neg e'] at hm
      obtain rfl := Option.some.inj hm
      refine NS.other M N.all T.size fun k hlt hh => hkeep k hlt fun es => ?_
      have hap := h.apart j i m0 n e' hm0 hn k es
      rcases hh with hh | hh
      · exact hap.2 hh
      · exact hh.1 hap.1
  · intro j1 j2 m1 m2 hne h1 h2 k k2
    simp only at h1 h2
    rw [turnAt_get] at h1 h2
    cases hx1 : x.ns[j1]? with
    | none => rw [hx1] at h1; cases h1
    | some a1 =>
    cases hx2 : x.ns[j2]? with
    | none => rw [hx2] at h2; cases h2
    | some a2 =>
    rw [hx1] at h1
    rw [hx2] at h2
    simp only [Option.map_some] at h1 h2
    obtain ⟨u1, _, M1⟩ := h.at_ hx1
    obtain ⟨u2, _, M2⟩ := h.at_ hx2
    have hap := h.apart j1 j2 a1 a2 hne hx1 hx2
    by_cases c1 : j1 = i
    · have c2 : ¬ j2 = i := by omega
      rw [if_pos c1] at h1
      rw [if_neg c2] at h2
      obtain rfl := Option.some.inj h1
      obtain rfl := Option.some.inj h2
      have ha : a1 = n := by rw [c1, hn] at hx1; exact (Option.some.inj hx1).symm
      subst ha
      have hk2 : SN a2 k := k2
      refine ⟨by rw [e3]; exact (hap k hk2).1, fun hk => ?_⟩
      rcases T.new k hk with e | e
      · exact (hap k hk2).2 e
      · have := M2.lt hk2; omega
    · rw [if_neg c1] at h1
      obtain rfl := Option.some.inj h1
      by_cases c2 : j2 = i
      · rw [if_pos c2] at h2
        obtain rfl := Option.some.inj h2
        have ha : a2 = n := by rw [c2, hn] at hx2; exact (Option.some.inj hx2).symm
        subst ha
        rcases T.new k k2 with e | e
        · exact ⟨.inl (hap k e).1, fun hk => (hap k e).2 hk⟩
        · refine ⟨.inr ⟨e, N.lt k2⟩, fun hk => ?_⟩
          have := M1.lt (show SN a1 k from hk); omega
      · rw [if_neg c2] at h2
        obtain rfl := Option.some.inj h2
        exact ⟨.inl (hap k k2).1, fun hk => (hap k k2).2 hk⟩
  · refine T.mono (fun k e => .inl (.inr (.inr (.inr ⟨n, hmem, e⟩)))) fun k e => ?_
    rcases e with (e | e | e | ⟨m, hm, e⟩) | e
    · exact .inl (.inl (.inl e))
    · exact .inl (.inl (.inr (.inl e)))
    · exact .inl (.inl (.inr (.inr (.inl e))))
    · rcases hin m hm with rfl | ⟨m0, hm0, hmm⟩
      · exact .inr e
      · exact .inl (.inl (.inr (.inr (.inr ⟨m0, hm0, (hmm k).1 e⟩))))
    · exact .inl (.inr e)
/-- Blocks that are none of a log's. -/
def Frn (o : Obj) : Prop := ∃ cs ty f, o = .cells cs ty f ∧ (ty = 113 ∨ ty = 69 ∨ ty = 71)
theorem frn_no {cs : Array Value} {ty : TypeId} {f : Nat × Nat} (h : ¬ (ty = 113 ∨ ty = 69 ∨ ty = 71)) : ¬ Frn (.cells cs ty f) := by
  rintro ⟨cs', ty', f', e, ht⟩
  injection e with _ e _
  rw [← e] at ht
  exact h ht
theorem NS.forn (M : NS w0 w n g gd room t) (hb : Below w0.heap.size w0 w') (hsz : w.heap.size ≤ w'.heap.size) (hk : ∀ (k : Nat) o, w.heap[k]? = some o → ¬ Frn o → w'.heap[k]? = some o) : NS w0 w' n g gd room t := by
  obtain ⟨q1, q2, m4, M4, q3⟩ := M
  refine ⟨q1, q2, m4, ?_, q3⟩
  have hc : ∀ (k : Nat) (cs : Array Value) (ty : TypeId), w.heap[k]? = some (.cells cs ty (0, 0)) → ¬ (ty = 113 ∨ ty = 69 ∨ ty = 71) → w'.heap[k]? = w.heap[k]? := fun k cs ty hw ht => (hk k _ hw (frn_no ht)).trans hw.symm
  obtain ⟨D, ⟨es, clock, hbm, F, hs, hDe⟩, hA⟩ := M4.map
  obtain ⟨ts, hsb⟩ := M4.seg.blk
  obtain ⟨xs, hrr, _, _⟩ := M4.seg.row
  refine ⟨M4.seg.keep hb fun k hs => ?_, M4.lown, M4.lowm, (hc _ _ _ M4.blk (by decide)).trans M4.blk, ⟨D, ⟨es, clock, hk _ _ hbm (by rintro ⟨_, _, _, e, _⟩; cases e), F, hs, hDe⟩, hA⟩, M4.once, fun z hz => ⟨(M4.rows z hz).1.move fun k e => ?_, (M4.rows z hz).2⟩, M4.rng, M4.rngc, fun k hk => Nat.lt_of_lt_of_le (M4.pb k hk) hsz⟩
  · rcases hs with rfl | e | rfl | e
    · exact hc _ _ _ M4.seg.disk.blk (by decide)
    · obtain ⟨_, _, cur, hcu⟩ := M4.seg.disk.row.lt k e.symm
      exact hc _ _ _ hcu (by decide)
    · exact hc _ _ _ hsb (by decide)
    · obtain ⟨_, _, cur, hcu⟩ := hrr.lt k e.symm
      exact hc _ _ _ hcu (by decide)
  · obtain ⟨_, _, cur, hcu⟩ := (M4.rows z hz).1.lt k e
    exact hc _ _ _ hcu (by decide)
theorem Lg.forn (h : Lg w0 w x room s) (hb : Below w0.heap.size w0 w') (hsz : w.heap.size ≤ w'.heap.size) (hk : ∀ (k : Nat) o, w.heap[k]? = some o → ¬ Frn o → w'.heap[k]? = some o) : Lg w0 w' x room s := by
  have hc : ∀ (k : Nat) (cs : Array Value) (ty : TypeId), w.heap[k]? = some (.cells cs ty (0, 0)) → ¬ (ty = 113 ∨ ty = 69 ∨ ty = 71) → w'.heap[k]? = w.heap[k]? := fun k cs ty hw ht => (hk k _ hw (frn_no ht)).trans hw.symm
  refine ⟨hb, h.low, (hc _ _ _ h.blk (by decide)).trans h.blk, h.dk.move fun k e => ?_, h.nd.move fun k e => ?_, h.vrn, h.row.turn (fun k _ _ hk => ?_) (fun _ h _ => h), h.rng, h.len, h.few, fun i n t hn ht => NS.forn (h.each i n t hn ht) hb hsz hk, h.apart⟩
  · obtain ⟨_, _, cur, hcu⟩ := h.dk.lt k e
    exact hc _ _ _ hcu (by decide)
  · obtain ⟨_, _, cur, hcu⟩ := h.nd.lt k e
    exact hc _ _ _ hcu (by decide)
  · obtain ⟨cs, ty, hce, ht⟩ := hk
    refine hc _ _ _ hce ?_
    rcases ht with rfl | rfl <;> decide
theorem Stp.far {w w1 w2 : World} {S S' : Nat → Prop} (h : Stp w w1 S S') (hsz : w1.heap.size ≤ w2.heap.size) (hk : ∀ k, k < w.heap.size → w2.heap[k]? = w1.heap[k]?) : Stp w w2 S S' :=
  ⟨Nat.le_trans h.size hsz, fun k hlt hs => (hk k hlt).trans (h.keep k hlt hs), h.new⟩
/-- A node stays, if its blocks do, and all bytes. -/
theorem NS.but (M : NS w0 w n g gd room t) (hb : Below w0.heap.size w0 w') (hsz : w.heap.size ≤ w'.heap.size) (hk : ∀ k, k < w.heap.size → (SN n k ∨ ∃ cs, w.heap[k]? = some (.cells cs 5 (0, 0))) → w'.heap[k]? = w.heap[k]?) : NS w0 w' n g gd room t := by
  obtain ⟨q1, q2, m4, M4, q3⟩ := M
  refine ⟨q1, q2, m4, ?_, q3⟩
  have hk1 : ∀ k, SN n k → w'.heap[k]? = w.heap[k]? := fun k e => hk k (M4.lt e) (.inl e)
  obtain ⟨D, ⟨es, clock, hbm, F, hs, hDe⟩, hA⟩ := M4.map
  refine ⟨M4.seg.keep hb fun k hs => hk1 k (.inl hs), M4.lown, M4.lowm, (hk1 _ (.inr (.inl rfl))).trans M4.blk, ⟨D, ⟨es, clock, (hk1 _ (.inr (.inr rfl))).trans hbm, F, hs, hDe⟩, hA⟩, M4.once, fun z hz => ⟨(M4.rows z hz).1.move fun k e => ?_, (M4.rows z hz).2⟩, M4.rng, M4.rngc, fun k hk => Nat.lt_of_lt_of_le (M4.pb k hk) hsz⟩
  obtain ⟨_, hlt, cur, hc⟩ := (M4.rows z hz).1.lt k e
  exact hk k hlt (.inr ⟨cur, hc⟩)
/-- The log's own block is turned, and its row's. -/
theorem Lg.turn (h : Lg w0 w x room s) {v' : Value} {s' : LS} (hb : Below w0.heap.size w0 w') (hsz : w.heap.size ≤ w'.heap.size) (hk : ∀ k, k < w.heap.size → k ≠ x.lg → x.vr.ownBlock ≠ some k → w'.heap[k]? = w.heap[k]?)
    (hblk : w'.heap[x.lg]? = some (.cells #[x.vd, x.vn, .bool s'.opn, .int .i64 s'.ep, v'] 63 (0, 0))) (hst : s'.st = s.st) (hrow : RowB w' w0.heap.size (fun k => ¬ LF { x with vr := v' } k) v' s'.row) (hvrn : ∀ k, v'.ownBlock = some k → ¬ Core x k)
    (hrng : s'.row.length ≤ 4096 ∧ ∀ b ∈ s'.row, b.length ≤ 2048 ∧ ∀ y ∈ b, 0 ≤ y ∧ y ≤ 255) (hnew : ∀ k, v'.ownBlock = some k → x.vr.ownBlock = some k ∨ w.heap.size ≤ k) :
    Lg w0 w' { x with vr := v' } room s' ∧ Stp w w' (LF x) (LF { x with vr := v' }) := by
  have hty : ∀ (k : Nat) (cs : Array Value) (ty : TypeId), w.heap[k]? = some (.cells cs ty (0, 0)) → ty ≠ 63 → ty ≠ 32 → w'.heap[k]? = w.heap[k]? := fun k cs ty hc h1 h2 => hk k (Array.getElem?_eq_some_iff.1 hc).1 (blk_ne hc h.blk h1) fun e => by
    obtain ⟨_, _, cur, hcur⟩ := h.row.lt e
    exact blk_ne hc hcur h2 rfl
  refine ⟨⟨hb, h.low, hblk, h.dk.move fun k e => ?_, h.nd.move fun k e => ?_, hvrn, hrow, hrng, by rw [hst]; exact h.len, h.few, fun i n t hn ht => ?_, h.apart⟩, ⟨hsz, fun k hlt hS => hk k hlt (fun e => hS (.inl (.inl e))) (fun e => hS (.inr e.symm)), fun k e => ?_⟩⟩
  · obtain ⟨_, _, cur, hcu⟩ := h.dk.lt k e
    exact hty _ _ _ hcu (by decide) (by decide)
  · obtain ⟨_, _, cur, hcu⟩ := h.nd.lt k e
    exact hty _ _ _ hcu (by decide) (by decide)
  · rw [hst] at ht
    have M := h.each i n t hn ht
    refine NS.but M hb hsz fun k hlt hh => ?_
    rcases hh with hh | ⟨cs, hh⟩
    · refine hk k hlt (fun e => ?_) (fun e => h.vrn k e (.inr (.inr (.inr ⟨n, List.mem_of_getElem? hn, hh⟩))))
      rw [e] at hh
      exact NS.ne M h.blk (.inl rfl) hh
    · exact hty _ _ _ hh (by decide) (by decide)
  · rcases e with e | e
    · exact .inl (.inl e)
    · rcases hnew k e.symm with q | q
      · exact .inl (.inr q.symm)
      · exact .inr q
theorem Lg.setOpn (h : Lg w0 w x room s) (b : Bool) : Lg w0 (w.setCell ⟨x.lg, 2, none⟩ (.bool b)) x room { s with opn := b } ∧ Stp w (w.setCell ⟨x.lg, 2, none⟩ (.bool b)) (LF x) (LF x) := by
  refine h.turn (v' := x.vr) (s' := { s with opn := b }) (below_set h.base h.low) (by simp) (fun k _ hk _ => set_other _ hk) ?_ rfl ?_ h.vrn h.rng (fun _ h => .inl h)
  · exact heap_setCell_same w x.lg 2 _ 63 (.bool b) h.blk
  · refine h.row.turn (fun k hk hlt _ => set_other _ fun e => ?_) (fun _ h _ => h)
    rcases hk with hk | hk
    · exact hk (.inl (.inl e))
    · exact h.vrn k hk (.inl e)
theorem Lg.setEp (h : Lg w0 w x room s) (e : Int) : Lg w0 (w.setCell ⟨x.lg, 3, none⟩ (.int .i64 e)) x room { s with ep := e } ∧ Stp w (w.setCell ⟨x.lg, 3, none⟩ (.int .i64 e)) (LF x) (LF x) := by
  refine h.turn (v' := x.vr) (s' := { s with ep := e }) (below_set h.base h.low) (by simp) (fun k _ hk _ => set_other _ hk) ?_ rfl ?_ h.vrn h.rng (fun _ h => .inl h)
  · exact heap_setCell_same w x.lg 3 _ 63 (.int .i64 e) h.blk
  · refine h.row.turn (fun k hk hlt _ => set_other _ fun e => ?_) (fun _ h _ => h)
    rcases hk with hk | hk
    · exact hk (.inl (.inl e))
    · exact h.vrn k hk (.inl e)
/-- One node more. -/
theorem Lg.push (h : Lg w0 w x room s) (h7 : x.ns.length < 7) {vd' vn' : Value} (N : NS w0 w' n' n'.gn n'.gp room t') (hP : ∀ k, k < w.heap.size → n'.P k) (hS : ∀ k, SN n' k → w.heap.size ≤ k) (hsz : w.heap.size ≤ w'.heap.size)
    (hk : ∀ k, k < w.heap.size → k ≠ x.lg → x.vd.ownBlock ≠ some k → x.vn.ownBlock ≠ some k → w'.heap[k]? = w.heap[k]?) (hblk : w'.heap[x.lg]? = some (.cells #[vd', vn', .bool s.opn, .int .i64 s.ep, x.vr] 63 (0, 0)))
    (hd : Row w' w0.heap.size 64 vd' (x.ns.map dptr ++ [dptr n'])) (hn : Row w' w0.heap.size 67 vn' (x.ns.map nptr ++ [nptr n'])) (hdn : ∀ k, vd'.ownBlock = some k → x.vd.ownBlock = some k ∨ w.heap.size ≤ k) (hnn : ∀ k, vn'.ownBlock = some k → x.vn.ownBlock = some k ∨ w.heap.size ≤ k) :
    Lg w0 w' { lg := x.lg, vd := vd', vn := vn', vr := x.vr, ns := (x.ns.map fun m => NB.wide m w.heap.size w'.heap.size) ++ [n'] } room { s with st := s.st ++ [t'] } := by
  have hty : ∀ (k : Nat) (cs : Array Value) (ty : TypeId), w.heap[k]? = some (.cells cs ty (0, 0)) → ty ≠ 63 → ty ≠ 64 → ty ≠ 67 → w'.heap[k]? = w.heap[k]? := fun k cs ty hc h1 h2 h3 => hk k (Array.getElem?_eq_some_iff.1 hc).1 (blk_ne hc h.blk h1) (fun e => by
    obtain ⟨_, _, cur, hcur⟩ := h.dk.lt k e
    exact blk_ne hc hcur h2 rfl) fun e => by
    obtain ⟨_, _, cur, hcur⟩ := h.nd.lt k e
    exact blk_ne hc hcur h3 rfl
  have hcore : ∀ k, Core { lg := x.lg, vd := vd', vn := vn', vr := x.vr, ns := (x.ns.map fun m => NB.wide m w.heap.size w'.heap.size) ++ [n'] } k → Core x k ∨ w.heap.size ≤ k := by
    rintro k (e | e | e | ⟨m, hm, e⟩)
    · exact .inl (.inl e)
    · rcases hdn k e.symm with q | q
      · exact .inl (.inr (.inl q.symm))
      · exact .inr q
    · rcases hnn k e.symm with q | q
      · exact .inl (.inr (.inr (.inl q.symm)))
      · exact .inr q
    · rcases List.mem_append.1 hm with hm | hm
      · obtain ⟨m0, hm0, rfl⟩ := List.mem_map.1 hm
        exact .inl (.inr (.inr (.inr ⟨m0, hm0, e⟩)))
      · rw [List.mem_singleton.1 hm] at e
        exact .inr (hS k e)
  have hl := h.len
  refine ⟨N.all, h.low, hblk, ?_, ?_, ?_, ?_, h.rng, ?_, ?_, ?_, ?_⟩
  · show Row w' w0.heap.size _ vd' (List.map dptr ((x.ns.map fun m => NB.wide m w.heap.size w'.heap.size) ++ [n']))
    rw [List.map_append, List.map_map]; exact hd
  · show Row w' w0.heap.size _ vn' (List.map nptr ((x.ns.map fun m => NB.wide m w.heap.size w'.heap.size) ++ [n']))
    rw [List.map_append, List.map_map]; exact hn
  · intro k hk e
    rcases hcore k e with e | e
    · exact h.vrn k hk e
    · have := (h.row.lt hk).2.1; omega
  · refine h.row.turn (fun k _ _ hc => ?_) (fun k hk hlt e => ?_)
    · obtain ⟨cs, ty, hce, ht⟩ := hc
      rcases ht with rfl | rfl
      · exact hty _ _ _ hce (by decide) (by decide) (by decide)
      · exact hty _ _ _ hce (by decide) (by decide) (by decide)
    · rcases e with e | e
      · rcases hcore k e with e | e
        · exact hk (.inl e)
        · omega
      · exact hk (.inr e)
  · simp only [List.length_append, List.length_map, List.length_singleton]; omega
  · simp only [List.length_append, List.length_map, List.length_singleton]; omega
  · intro i m u hm hu
    by_cases hi : i < x.ns.length
    · rw [List.getElem?_append_left (by rw [List.length_map]; exact hi), List.getElem?_map] at hm
      rw [List.getElem?_append_left (by omega)] at hu
      obtain ⟨m0, hm0, M⟩ := h.at' hu
      rw [hm0] at hm
      obtain rfl := Option.some.inj hm
      refine NS.other M N.all hsz fun k hlt hh => ?_
      rcases hh with hh | ⟨_, cs, hh⟩
      · exact hk k hlt (fun e => NS.ne M (e ▸ h.blk) (.inl rfl) hh) (fun e => by
          obtain ⟨_, _, cur, hcur⟩ := h.dk.lt k e
          exact NS.ne M hcur (.inr (.inl rfl)) hh) (fun e => by
          obtain ⟨_, _, cur, hcur⟩ := h.nd.lt k e
          exact NS.ne M hcur (.inr (.inr (.inl rfl))) hh)
      · exact hty _ _ _ hh (by decide) (by decide) (by decide)
    · rw [List.getElem?_append_right (by rw [List.length_map]; omega)] at hm
      rw [List.getElem?_append_right (by omega)] at hu
      have e0 : i - x.ns.length = 0 := by
        have := (List.getElem?_eq_some_iff.1 hm).1
        simp only [List.length_map, List.length_singleton] at this; omega
      rw [List.length_map, e0] at hm
      rw [hl, e0] at hu
      obtain rfl : n' = m := by simpa using hm
      obtain rfl : t' = u := by simpa using hu
      exact N
  · intro i j m1 m2 hne h1 h2 k k2
    have split : ∀ (i : Nat) m, ((x.ns.map fun m => NB.wide m w.heap.size w'.heap.size) ++ [n'])[i]? = some m → (∃ m0, x.ns[i]? = some m0 ∧ m = NB.wide m0 w.heap.size w'.heap.size) ∨ (i = x.ns.length ∧ m = n') := by
      intro i m hm
      by_cases hi : i < x.ns.length
      · rw [List.getElem?_append_left (by rw [List.length_map]; exact hi), List.getElem?_map, List.getElem?_eq_getElem hi] at hm
        exact .inl ⟨_, List.getElem?_eq_getElem hi, (Option.some.inj hm).symm⟩
      · have hlt := (List.getElem?_eq_some_iff.1 hm).1
        simp only [List.length_append, List.length_map, List.length_singleton] at hlt
        rw [List.getElem?_append_right (by rw [List.length_map]; omega), List.length_map, show i - x.ns.length = 0 by omega] at hm
        exact .inr ⟨by omega, by simpa using hm.symm⟩
    rcases split i m1 h1 with ⟨a1, ha1, rfl⟩ | ⟨hi, rfl⟩
    · obtain ⟨u1, _, M1⟩ := h.at_ ha1
      rcases split j m2 h2 with ⟨a2, ha2, rfl⟩ | ⟨hj, rfl⟩
      · have hap := h.apart i j a1 a2 hne ha1 ha2 k k2
        exact ⟨.inl hap.1, hap.2⟩
      · refine ⟨.inr ⟨hS k k2, N.lt k2⟩, fun e => ?_⟩
        have := M1.lt (show SN a1 k from e)
        have := hS k k2
        omega
    · rcases split j m2 h2 with ⟨a2, ha2, rfl⟩ | ⟨hj, rfl⟩
      · obtain ⟨u2, _, M2⟩ := h.at_ ha2
        have hlt := M2.lt (show SN a2 k from k2)
        exact ⟨hP k hlt, fun e => by have := hS k e; omega⟩
      · exact absurd (hi.trans hj.symm) hne
end
end Go.Proofs.YtiinelmednbpmaaGreat.Slog
/- The walk of ask, whatever is asked of the nodes. -/
namespace Go.Proofs.YtiinelmednbpmaaGreat.Slog
open Go.RowKit Go.Maps Go.Proofs.YtiinelmednbpmaaGreatW.PrintWords Go.Proofs.YtiinelmednbpmaaGreatW.PrintMore Go.Proofs.YtiinelmednbpmaaGreat.Row Go.Proofs.YtiinelmednbpmaaGreat.Cut Go.Proofs.YtiinelmednbpmaaGreat.DiskM Go.Proofs.YtiinelmednbpmaaGreat.Quor Go.Proofs.YtiinelmednbpmaaGreat.Slot
def needM (n : Int) : Int := (if n < 1 then 1 else n) / 2 + 1
attribute [local go_sem] max2_int min2_int max_two min_two
set_option maxHeartbeats 1000000 in
theorem need_calls (n : Int) (hn : n ≤ 9223372036854775807) (w : World) : Calls Tryz.prog 55 #[.int .i64 n] w fun e w' => e = .returned (.int .i64 (needM n)) ∧ w = w' := by
  unfold needM
  by_cases h : n < 1
  · rw [if_pos h]
    go_enter Tryz.func55, Tryz.ntmps55
    go_wp2
    go_ret
    exact ⟨by first | rfl | (congr 2; omega), rfl⟩
  · rw [if_neg h]
    go_enter Tryz.func55, Tryz.ntmps55
    go_wp2
    go_ret
    exact ⟨by first | rfl | (congr 2; omega), rfl⟩
set_option maxHeartbeats 1000000 in
theorem add_calls (B : Nat) (c : Nat) (w : World) (hb : w.heap[B]? = some (.cells #[.int .i32 c] 113 (0, 0))) (hc : c ≤ 1000) :
    Calls Tryz.prog 53 #[.pointer (some ⟨B, 0, none⟩), .int .i32 1] w fun e w' => e = .returned (.int .i32 ((c : Int) + 1)) ∧ w' = w.setCell ⟨B, 0, none⟩ (.int .i32 ((c : Int) + 1)) := by
  have h0 : w.cell? ⟨B, 0, none⟩ = some (.int .i32 c) := (blk_cell hb 0).trans rfl
  have f0 : w.frozen? ⟨B, 0, none⟩ = false := blk_frozen hb _
  have hs : IntKind.i32.wrap ((c : Int) + 1) = (c : Int) + 1 := by
    unfold IntKind.wrap; simp [IntKind.bits, IntKind.signed]; omega
  have hadd := run_call_add (P := Tryz.prog) Tryz.func82 (by kernel_rfl) (by kernel_rfl) (by kernel_rfl) .i32 (by kernel_rfl) (y := 1) (s := (c : Int) + 1) h0 f0 (by simp [go_sem, hs])
  clear hs
  go_enter Tryz.func53, Tryz.ntmps53
  go_wp2
  go_ret
  exact ⟨rfl, rfl⟩
set_option maxHeartbeats 1000000 in
theorem load_calls (B : Nat) (c : Nat) (w : World) (hb : w.heap[B]? = some (.cells #[.int .i32 c] 113 (0, 0))) :
    Calls Tryz.prog 54 #[.pointer (some ⟨B, 0, none⟩)] w fun e w' => e = .returned (.int .i32 c) ∧ w = w' := by
  have h0 : w.cell? ⟨B, 0, none⟩ = some (.int .i32 c) := (blk_cell hb 0).trans rfl
  have hl := run_call_load (P := Tryz.prog) Tryz.func83 (by kernel_rfl) (by kernel_rfl) (by kernel_rfl) .i32 (by kernel_rfl) h0
  go_enter Tryz.func54, Tryz.ntmps54
  go_wp2
  go_ret
  exact ⟨rfl, rfl⟩
/-- What is asked: I k c says that k have been asked, c of them answered OK. -/
structure Asks (fn : Nat) (caps : List Value) (lg : Nat) (NA RA : Option Addr) (n nc : Nat) (ptr : Nat → Value) (rs : List Bool) (B : Nat) (I : Nat → Nat → World → Prop) : Prop where
  cell : ∀ {k c w}, I k c w → w.cell? ⟨lg, 1, none⟩ = some (.slice NA n nc)
  node : ∀ {k c w}, I k c w → k < n → ∃ ad, NA = some ad ∧ w.cell? (ad.add k) = some (ptr k)
  reach : ∀ {k c w}, I k c w → Kd.bool.C w RA rs.length rs
  set : ∀ {k c w} (v : Value), I k c w → I k c (w.setCell ⟨B, 0, none⟩ v)
  drew : ∀ {k c w} (q : Nat), I k c w → I k c (w.drewN q)
  skip : ∀ {k c w}, I k c w → k < n → rs.getD k false = false → I (k + 1) c w
  ask : ∀ {k c w}, I k c w → k < n → rs.getD k false = true → Calls Tryz.prog fn (ptr k :: caps).toArray w fun e w' => ∃ r, e = .returned (.int .i64 r) ∧ I (k + 1) (c + if r = 0 then 1 else 0) w' ∧ (B < w.heap.size → w'.heap[B]? = w.heap[B]?)
set_option maxRecDepth 1000000 in
set_option maxHeartbeats 4000000 in
theorem ask_calls {w : World} {fn lg : Nat} {caps : List Value} {NA RA : Option Addr} {n nc rc : Nat} {ptr : Nat → Value} {rs : List Bool} {I : Nat → Nat → World → Prop} (hn : n ≤ 7)
    (H : Asks fn caps lg NA RA n nc ptr rs w.heap.size I) (hfn : fn = 29 ∨ fn = 65)
    (h0 : I 0 0 (w.alloc (.cells #[.int .i32 0] 113))) :
    Calls Tryz.prog 28 #[.pointer (some ⟨lg, 0, none⟩), .slice RA rs.length rc, .func (.func fn) #[] caps.toArray] w fun e w' => ∃ c, I n c w' ∧ e = .returned (.bool (decide (needM n ≤ c))) := by
  obtain ⟨rl, hrl2⟩ : ∃ rl, rl = rs.length := ⟨_, rfl⟩
  have HA := Lib.hid H; have H0 := Lib.hid h0; have HL := Lib.hid hrl2; have HF := Lib.hid hfn
  have hB := heap_alloc_new w (.cells #[.int .i32 0] 113)
  have HB := Lib.hid hB
  have hc1 := HA.out.cell h0
  rw [← hrl2]
  clear H h0 hrl2 hfn hB
  go_enter Tryz.func28, Tryz.ntmps28
  go_wp2_with fail
  go_loopw [15] (fun i wx => ∃ (k c : Nat), k ≤ n ∧ c ≤ k ∧ i = .int .i64 k ∧ I k c wx ∧ wx.heap[w.heap.size]? = some (.cells #[.int .i32 c] 113 (0, 0))) (fun i _ => n - (intOf i).toNat)
  case atStart => exact ⟨0, 0, Nat.zero_le _, Nat.le_refl _, rfl, H0.out, HB.out⟩
  case round =>
    obtain ⟨k, c, hk, hck, rfl, hI, hb⟩ := hrel
    rename World => wx
    have HI := Lib.hid hI; have Hb := Lib.hid hb
    clear hc1
    by_cases hlt : k < n
    · obtain ⟨ad, rfl, hp⟩ := HA.out.node hI hlt
      have hk0 : (0 : Int) ≤ (k : Int) := by omega
      have hlti : (k : Int) < (n : Int) := by omega
      clear hI hb
      by_cases hkr : k < rl
      · have hkri : (k : Int) < (rl : Int) := by omega
        have hC := HA.out.reach HI.out
        obtain ⟨ar, rfl, hr⟩ := Kd.at_bool hC k (by omega) (by rw [← HL.out]; omega)
        rw [Int.toNat_natCast] at hr
        have hrd : rdOf false rs (k : Int) = rs.getD k false := by unfold rdOf; simp [List.getD_eq_getElem?_getD]
        rw [hrd] at hr
        clear hC hrd
        by_cases hrk : rs.getD k false = true
        · rw [hrk] at hr
          have hcl := HA.out.ask HI.out hlt hrk
          have HR := Lib.hid hrk
          clear hrk
          have hBl : w.heap.size < wx.heap.size := (Array.getElem?_eq_some_iff.1 Hb.out).1
          rcases HF.out with rfl | rfl
          all_goals
            go_wp2_with fail
            refine hcl.mono ?_
            rintro e w2 ⟨r, rfl, hI2, hb2⟩
            have hb3 := (hb2 hBl).trans Hb.out
            have HI2 := Lib.hid hI2
            clear hcl hI2 hb2 hr hp
            by_cases hr0 : r = 0
            · subst hr0
              rw [if_pos rfl] at HI2
              have hadd := add_calls w.heap.size c w2 hb3 (by omega)
              have Hb3 := Lib.hid hb3
              clear hb3
              go_wp2_with fail
              refine hadd.mono ?_
              rintro e w3 ⟨rfl, rfl⟩
              have hI3 := HA.out.set (.int .i32 ((c : Int) + 1)) HI2.out
              have hb4 := heap_setCell_same w2 w.heap.size 0 _ 113 (.int .i32 ((c : Int) + 1)) Hb3.out
              have HI3 := Lib.hid hI3; have Hb4 := Lib.hid hb4
              clear hadd hI3 hb4
              go_wp2_with fail
              go_roundw
              case rel => exact ⟨k + 1, c + 1, by omega, by omega, by go_num, HI3.out, Hb4.out⟩
              case measure => simp only [intOf]; omega
            · rw [if_neg hr0] at HI2
              have hrb : (r == 0) = false := beq_eq_false_iff_ne.2 hr0
              have Hb3 := Lib.hid hb3
              clear hb3
              go_wp2_with fail
              go_roundw
              case rel => exact ⟨k + 1, c, by omega, by omega, by go_num, HI2.out, Hb3.out⟩
              case measure => simp only [intOf]; omega
        · have hrf : rs.getD k false = false := by simpa using hrk
          rw [hrf] at hr
          have hsk := HA.out.skip HI.out hlt hrf
          have HS := Lib.hid hsk
          clear hrk hrf hsk
          go_wp2_with fail
          go_roundw
          case rel => exact ⟨k + 1, c, by omega, by omega, by go_num, HS.out, Hb.out⟩
          case measure => simp only [intOf]; omega
      · have hkri : (rl : Int) ≤ (k : Int) := by omega
        have hrf : rs.getD k false = false := by
          rw [List.getD_eq_getElem?_getD, List.getElem?_eq_none (by rw [← HL.out]; omega)]; rfl
        have hsk := HA.out.skip HI.out hlt hrf
        have HS := Lib.hid hsk
        clear hrf hsk
        go_wp2_with fail
        go_roundw
        case rel => exact ⟨k + 1, c, by omega, by omega, by go_num, HS.out, Hb.out⟩
        case measure => simp only [intOf]; omega
    · obtain rfl : k = n := by omega
      have hc2 := HA.out.cell hI
      have hnk : (k : Int) ≤ 9223372036854775807 := by omega
      have hw : IntKind.i64.wrap ((c : Nat) : Int) = (c : Int) := IntWalk.i64_in _ (by omega)
      have hld : ∀ q, Calls Tryz.prog 54 #[.pointer (some ⟨w.heap.size, 0, none⟩)] (wx.drewN q) fun e w' => e = .returned (.int .i32 c) ∧ w' = wx.drewN q := fun q => (load_calls w.heap.size c (wx.drewN q) hb).mono fun _ _ h => ⟨h.1, h.2.symm⟩
      have hnd : ∀ q, Calls Tryz.prog 55 #[.int .i64 k] (wx.drewN q) fun e w' => e = .returned (.int .i64 (needM k)) ∧ w' = wx.drewN q := fun q => (need_calls (k : Int) hnk _).mono fun _ _ h => ⟨h.1, h.2.symm⟩
      clear hI hb
      go_wp2_with fail
      go_quiet ((first | (go_at_call 54; exact Calls.quiet_of_same (hld _)) | (go_at_call 55; exact Calls.quiet_of_same (hnd _))))
      go_wp2_with fail
      go_ret
      exact ⟨c, HA.out.drew _ HI.out, rfl⟩
end Go.Proofs.YtiinelmednbpmaaGreat.Slog
/- The walk of write, and of the closure that it hands to ask. -/
namespace Go.Proofs.YtiinelmednbpmaaGreat.Slog
open Go.RowKit Go.Maps Go.Proofs.YtiinelmednbpmaaGreatW.PrintWords Go.Proofs.YtiinelmednbpmaaGreatW.PrintMore Go.Proofs.YtiinelmednbpmaaGreat.Row Go.Proofs.YtiinelmednbpmaaGreat.Cut Go.Proofs.YtiinelmednbpmaaGreat.DiskM Go.Proofs.YtiinelmednbpmaaGreat.Quor Go.Proofs.YtiinelmednbpmaaGreat.Slot
theorem write_nsR {w0 w : World} {n : NB} {g : Nat} {gd : Nat × (Nat → Prop)} {room : Int} {s : S3} (h : NS w0 w n g gd room s) (epoch at_ : Int) (B : Option Addr) (d : Nat) (b : List Int) (hC : (Kd.int .u8).C w B b.length b) (hd : b.length ≤ d) (hby : ∀ x ∈ b, 0 ≤ x ∧ x ≤ 255) (hbl : b.length ≤ 9223372036854775807) :
    Calls Tryz.prog 66 #[.pointer (some ⟨g, 0, none⟩), .int .i64 epoch, .int .i64 at_, .slice B b.length d] w (WriteNP w0 w n g gd room (writeR room s epoch at_ b)) := by
  obtain ⟨rfl, rfl, m, N, hm⟩ := h
  have hs : s = (s.1, m.map C4.c3, s.2.2) := by rw [hm]
  refine (write_any N epoch at_ B d b hC hd hby hbl).mono ?_
  rintro e w1 ⟨n', ep', m', rfl, h1, h2, N', he, hst⟩
  rw [← hs] at N' he ⊢
  refine ⟨n', rfl, ⟨h2, h1, m', ?_, congrArg (fun x => x.2.1) he⟩, hst⟩
  have e1 : ep' = (writeR room s epoch at_ b).2.1 := congrArg (fun x => x.1) he
  rw [← e1]; exact N'
set_option maxRecDepth 1000000 in
set_option maxHeartbeats 4000000 in
theorem wclo_calls {w0 w : World} {n : NB} {g : Nat} {gd : Nat × (Nat → Prop)} {room : Int} {t : S3} (N : NS w0 w n g gd room t) (lg p0 p1 p2 : Nat) (ep at_ : Int) (B : Option Addr) (d : Nat) (b : List Int)
    (c0 : w.cell? ⟨p0, 0, none⟩ = some (.pointer (some ⟨lg, 0, none⟩))) (c1 : w.cell? ⟨p1, 0, none⟩ = some (.int .i64 at_)) (c2 : w.cell? ⟨p2, 0, none⟩ = some (.slice B b.length d)) (c3 : w.cell? ⟨lg, 3, none⟩ = some (.int .i64 ep))
    (hC : (Kd.int .u8).C w B b.length b) (hd : b.length ≤ d) (hby : ∀ x ∈ b, 0 ≤ x ∧ x ≤ 255) (hbl : b.length ≤ 9223372036854775807) :
    Calls Tryz.prog 65 #[.pointer (some ⟨g, 0, none⟩), .pointer (some ⟨p0, 0, none⟩), .pointer (some ⟨p1, 0, none⟩), .pointer (some ⟨p2, 0, none⟩)] w (WriteNP w0 w n g gd room (writeR room t ep at_ b)) := by
  have hb1 : Below w.heap.size w w.drew := (Below.refl _ _).drew
  have hw := write_nsR (N.below hb1) ep at_ B d b (Kd.C_below hC hb1) hd hby hbl
  have HW := Lib.hid hw; have HB := Lib.hid hb1
  obtain ⟨bl, hl⟩ : ∃ bl, bl = b.length := ⟨_, rfl⟩
  rw [← hl] at HW c2 hbl
  clear hw hb1 N hC hby hd hl
  go_enter Tryz.func65, Tryz.ntmps65
  go_wp2_with fail
  go_still_tail 7, (by kernel_rfl)
  change wpList _ _ _ _ _ w.drew
  go_wp2_with fail
  refine HW.out.mono ?_
  rintro e w1 ⟨n', rfl, N', T'⟩
  have HN := Lib.hid (And.intro N' T')
  clear N' T'
  go_wp2_with fail
  go_ret
  exact ⟨n', rfl, HN.out.1, (Stp.of_below _ HB.out).trans HN.out.2⟩
def SameB (x x' : LB) : Prop := x'.lg = x.lg ∧ x'.vd = x.vd ∧ x'.vn = x.vn ∧ x'.vr = x.vr ∧ x'.ns.map NB.gn = x.ns.map NB.gn
theorem SameB.refl (x : LB) : SameB x x := ⟨rfl, rfl, rfl, rfl, rfl⟩
theorem SameB.trans {x y z : LB} (h : SameB x y) (g : SameB y z) : SameB x z := ⟨g.1.trans h.1, g.2.1.trans h.2.1, g.2.2.1.trans h.2.2.1, g.2.2.2.1.trans h.2.2.2.1, g.2.2.2.2.trans h.2.2.2.2⟩
def gnAt (x : LB) (i : Nat) : Nat := (x.ns.map NB.gn).getD i 0
theorem SameB.gn {x x' : LB} (h : SameB x x') {i : Nat} {n : NB} (hn : x'.ns[i]? = some n) : n.gn = gnAt x i := by
  unfold gnAt
  rw [← h.2.2.2.2, List.getD_eq_getElem?_getD, List.getElem?_map, hn]; rfl
/-- What stays since W: all that is none of the log's, nor Q's. -/
structure Fr2 (W w1 : World) (x x1 : LB) (Q : Nat → Prop) : Prop where
  size : W.heap.size ≤ w1.heap.size
  keep : ∀ k, k < W.heap.size → ¬ LF x k → ¬ Q k → w1.heap[k]? = W.heap[k]?
  new : ∀ k, LF x1 k → LF x k ∨ W.heap.size ≤ k
theorem Fr2.refl (W : World) (x : LB) (Q : Nat → Prop) : Fr2 W W x x Q := ⟨Nat.le_refl _, fun _ _ _ _ => rfl, fun _ h => .inl h⟩
theorem Fr2.step {W w1 w2 : World} {x x1 x2 : LB} {Q : Nat → Prop} (h : Fr2 W w1 x x1 Q) (T : Stp w1 w2 (LF x1) (LF x2)) : Fr2 W w2 x x2 Q := by
  refine ⟨Nat.le_trans h.size T.size, fun k hk h1 h2 => (T.keep k (Nat.lt_of_lt_of_le hk h.size) (fun e => (h.new k e).elim h1 (fun e => by omega))).trans (h.keep k hk h1 h2), fun k e => ?_⟩
  rcases T.new k e with e | e
  · exact h.new k e
  · exact .inr (Nat.le_trans h.size e)
theorem Fr2.far {W w1 w2 : World} {x x1 : LB} {Q : Nat → Prop} (h : Fr2 W w1 x x1 Q) (hsz : w1.heap.size ≤ w2.heap.size) (hk : ∀ k, k < W.heap.size → ¬ Q k → w2.heap[k]? = w1.heap[k]?) : Fr2 W w2 x x1 Q :=
  ⟨Nat.le_trans h.size hsz, fun k hlt h1 h2 => (hk k hlt h2).trans (h.keep k hlt h1 h2), h.new⟩
/-- What stands while nodes are asked: the counter at B. -/
def AskI (w0 W : World) (x : LB) (room : Int) (s : LS) (f : S3 → Int × S3) (rs : List Bool) (B : Nat) (Q : Nat → Prop) (E : Nat → LB → World → Prop) (k c : Nat) (w1 : World) : Prop :=
  ∃ x1, SameB x x1 ∧ Lg w0 w1 x1 room { s with st := part f rs s.st k } ∧ c = cnt f rs s.st k ∧ Fr2 W w1 x x1 Q ∧ (∃ v, w1.heap[B]? = some (.cells #[v] 113 (0, 0))) ∧ E k x1 w1
theorem turnI_yes {f : S3 → Int × S3} {rs : List Bool} {k : Nat} {t : S3} (h : rs.getD k false = true) : turnI f rs k t = (f t).2 := by unfold turnI; rw [if_pos h]
theorem turnI_no {f : S3 → Int × S3} {rs : List Bool} {k : Nat} {t : S3} (h : rs.getD k false = false) : turnI f rs k t = t := by unfold turnI; rw [if_neg (by rw [h]; decide)]
theorem part_no {f : S3 → Int × S3} {rs : List Bool} {st : List S3} {k : Nat} (h : rs.getD k false = false) (hk : k < st.length) : part f rs st (k + 1) = part f rs st k := by
  rw [part_succ f rs st k _ (List.getElem?_eq_getElem hk), turnI_no h]
  apply List.ext_getElem?
  intro i
  rw [List.getElem?_set]
  by_cases e : k = i
  · subst e
    rw [if_pos rfl, if_pos (by rw [part_len]; exact hk), part_get, if_neg (by omega), List.getElem?_eq_getElem hk]
  · rw [if_neg e]
theorem cnt_no {f : S3 → Int × S3} {rs : List Bool} {st : List S3} {k : Nat} (h : rs.getD k false = false) (hk : k < st.length) : cnt f rs st (k + 1) = cnt f rs st k := by
  rw [cnt_succ f rs st k _ (List.getElem?_eq_getElem hk)]
  unfold wellI
  rw [h]; simp
theorem cnt_yes {f : S3 → Int × S3} {rs : List Bool} {st : List S3} {k : Nat} {t : S3} (h : rs.getD k false = true) (hk : st[k]? = some t) : cnt f rs st (k + 1) = cnt f rs st k + if (f t).1 = 0 then 1 else 0 := by
  rw [cnt_succ f rs st k t hk]
  unfold wellI
  rw [h]
  by_cases e : (f t).1 = 0 <;> simp [e]
theorem needM_N (n : Nat) (c : Nat) (h : 1 ≤ n) : decide (needM n ≤ (c : Int)) = decide (needN n ≤ c) := by
  unfold needM needN
  rw [if_neg (by omega)]
  rw [decide_eq_decide]
  omega
/-- The ways of ask, for any closure that turns one node, and something beside it. -/
theorem asks_of {w0 W : World} {x : LB} {room : Int} {s : LS} {f : S3 → Int × S3} {rs : List Bool} {B : Nat} {Q : Nat → Prop} {E : Nat → LB → World → Prop} {fn : Nat} {caps : List Value} {NA RA : Option Addr} {nc : Nat}
    (hvn : x.vn = .slice NA s.st.length nc) (hB0 : W.heap.size = B + 1) (hlB : w0.heap.size ≤ B)
    (hQB : Q B) (hR : ∀ w1 x1, SameB x x1 → Fr2 W w1 x x1 Q → Kd.bool.C w1 RA rs.length rs)
    (hEset : ∀ k x1 w1 v, E k x1 w1 → B < w1.heap.size → E k x1 (w1.setCell ⟨B, 0, none⟩ v)) (hEdrew : ∀ k x1 w1 q, E k x1 w1 → E k x1 (w1.drewN q))
    (hEskip : ∀ k x1 w1, E k x1 w1 → k < s.st.length → rs.getD k false = false → E (k + 1) x1 w1)
    (hcall : ∀ k w1 x1 n t, k < s.st.length → rs.getD k false = true → SameB x x1 → Lg w0 w1 x1 room { s with st := part f rs s.st k } → Fr2 W w1 x x1 Q → x1.ns[k]? = some n → s.st[k]? = some t → NS w0 w1 n n.gn n.gp room t → E k x1 w1 → (∃ v, w1.heap[B]? = some (.cells #[v] 113 (0, 0))) →
      Calls Tryz.prog fn (nptr n :: caps).toArray w1 fun e w2 => e = .returned (.int .i64 (f t).1) ∧ ∃ x2, SameB x1 x2 ∧ Lg w0 w2 x2 room { s with st := part f rs s.st (k + 1) } ∧ Fr2 W w2 x x2 Q ∧ w2.heap[B]? = w1.heap[B]? ∧ E (k + 1) x2 w2) :
    Asks fn caps x.lg NA RA s.st.length nc (fun i => .pointer (some ⟨gnAt x i, 0, none⟩)) rs B (AskI w0 W x room s f rs B Q E) := by
  refine ⟨?_, ?_, ?_, ?_, ?_, ?_, ?_⟩
  · rintro k c w1 ⟨x1, hs, L, _⟩
    have := L.cells.2.1
    rw [hs.1, hs.2.2.1, hvn] at this
    exact this
  · rintro k c w1 ⟨x1, hs, L, _⟩ hk
    have hk1 : k < x1.ns.length := by have := L.len; simp only [part_len] at this; omega
    have hn : x1.ns[k]? = some x1.ns[k] := List.getElem?_eq_getElem hk1
    obtain ⟨g, hA, hc, _⟩ := L.nd.cellAt (A := NA) (n := s.st.length) (c := nc) (by rw [hs.2.2.1, hvn]) k (nptr x1.ns[k]) (by rw [List.getElem?_map, hn]; rfl)
    refine ⟨_, hA, ?_⟩
    rw [add_plain, hc]
    show some (Value.pointer _) = some (Value.pointer _)
    rw [hs.gn hn]
  · rintro k c w1 ⟨x1, hs, L, _, T, _⟩
    exact hR w1 x1 hs T
  · rintro k c w1 v ⟨x1, hs, L, hc, T, ⟨u, hB⟩, hE⟩
    have hBl := (Array.getElem?_eq_some_iff.1 hB).1
    have hoth : ∀ j, j ≠ B → (w1.setCell ⟨B, 0, none⟩ v).heap[j]? = w1.heap[j]? := fun j hj => set_other v hj
    refine ⟨x1, hs, L.forn (below_set L.base hlB) (by simp) (fun j o ho hf => ?_), hc, T.far (by simp) (fun j hj hq => hoth j (fun e => hq (e ▸ hQB))), ⟨v, ?_⟩, hEset k x1 w1 v hE hBl⟩
    · have hj : j ≠ B := by
        rintro rfl
        rw [hB] at ho
        exact hf ⟨_, _, _, (Option.some.inj ho).symm, .inl rfl⟩
      exact (hoth j hj).trans ho
    · have := heap_setCell_same w1 B 0 _ 113 v hB
      simpa using this
  · rintro k c w1 q ⟨x1, hs, L, hc, T, hB, hE⟩
    exact ⟨x1, hs, L.below (pw_below_drewN (Below.refl _ _) q), hc, ⟨T.size, T.keep, T.new⟩, hB, hEdrew k x1 w1 q hE⟩
  · rintro k c w1 ⟨x1, hs, L, hc, T, hB, hE⟩ hk hr
    refine ⟨x1, hs, ?_, ?_, T, hB, hEskip k x1 w1 hE hk hr⟩
    · rw [part_no hr hk]; exact L
    · rw [cnt_no hr hk]; exact hc
  · rintro k c w1 ⟨x1, hs, L, hc, T, hB, hE⟩ hk hr
    have hk1 : k < x1.ns.length := by have := L.len; simp only [part_len] at this; omega
    have hn : x1.ns[k]? = some x1.ns[k] := List.getElem?_eq_getElem hk1
    have ht : s.st[k]? = some s.st[k] := List.getElem?_eq_getElem hk
    have N := L.each k _ s.st[k] hn (by simp only [part_get]; rw [if_neg (by omega)]; exact ht)
    have hg := hs.gn hn
    have hcl := hcall k w1 x1 _ _ hk hr hs L T hn ht N hE hB
    rw [show nptr x1.ns[k] = .pointer (some ⟨gnAt x k, 0, none⟩) from by show Value.pointer _ = Value.pointer _; rw [hg]] at hcl
    refine hcl.mono ?_
    rintro e w2 ⟨rfl, x2, hs2, L2, T2, hB2, hE2⟩
    refine ⟨_, rfl, ⟨x2, hs.trans hs2, L2, ?_, T2, by rw [hB2]; exact hB, hE2⟩, fun _ => hB2⟩
    rw [cnt_yes hr ht, hc]
/-- One node was turned. -/
theorem node_step {w0 w1 w2 : World} {x1 : LB} {room : Int} {s : LS} {f : S3 → Int × S3} {rs : List Bool} {k : Nat} {n n' : NB} {t : S3} {B : Nat} (L : Lg w0 w1 x1 room { s with st := part f rs s.st k }) (hn : x1.ns[k]? = some n) (ht : s.st[k]? = some t) (hr : rs.getD k false = true)
    (N : NS w0 w1 n n.gn n.gp room t) (N' : NS w0 w2 n' n.gn n.gp room (f t).2) (T : Stp w1 w2 (SN n) (SN n')) (hB : ∃ v, w1.heap[B]? = some (.cells #[v] 113 (0, 0))) :
    ∃ x2, SameB x1 x2 ∧ Lg w0 w2 x2 room { s with st := part f rs s.st (k + 1) } ∧ w2.heap[B]? = w1.heap[B]? ∧ Stp w1 w2 (LF x1) (LF x2) ∧ ∀ j, LF x2 j → LF x1 j ∨ SN n' j := by
  obtain ⟨L2, T2⟩ := L.node hn N' T
  obtain ⟨v, hv⟩ := hB
  refine ⟨{ x1 with ns := turnAt x1.ns k n' w1.heap.size w2.heap.size }, ⟨rfl, rfl, rfl, rfl, turnAt_map NB.gn _ _ _ _ _ _ hn N'.1 (fun _ => rfl)⟩, ?_, T.keep B (Array.getElem?_eq_some_iff.1 hv).1 (NS.ne N hv (.inr (.inr (.inr (.inl rfl))))), T2, fun j e => ?_⟩
  · rw [part_succ f rs s.st k t ht, turnI_yes hr]
    exact L2
  · rcases e with (e | e | e | ⟨m, hm, e⟩) | e
    · exact .inl (.inl (.inl e))
    · exact .inl (.inl (.inr (.inl e)))
    · exact .inl (.inl (.inr (.inr (.inl e))))
    · obtain ⟨i, hi⟩ := List.mem_iff_getElem?.1 hm
      rw [turnAt_get] at hi
      cases hx : x1.ns[i]? with
      | none => rw [hx] at hi; cases hi
      | some m0 =>
        rw [hx] at hi
        by_cases c : i = k
        · simp [c] at hi
          rw [hi]; exact .inr e
        · simp [c] at hi
          rw [← hi] at e
          exact .inl (.inl (.inr (.inr (.inr ⟨m0, List.mem_of_getElem? hx, e⟩))))
    · exact .inl (.inr e)
theorem stp_C {α : Type} {d : Kd α} {w W w1 : World} {x x1 : LB} {Q : Nat → Prop} {A : Option Addr} {n : Nat} {l : List α} (h : Kd.F d w (fun k => ¬ LF x k) A n l) (hb : Below w.heap.size w W) (hQ : ∀ k, Q k → w.heap.size ≤ k) (T : Fr2 W w1 x x1 Q) : d.C w1 A n l :=
  h w1 fun k hk hlt => (T.keep k (Nat.lt_of_lt_of_le hlt hb.size) hk (fun e => by have := hQ k e; omega)).trans (hb.block k hlt)
theorem Fr2.done {w W w1 : World} {x x1 : LB} {Q : Nat → Prop} (T : Fr2 W w1 x x1 Q) (hb : Below w.heap.size w W) (hQ : ∀ k, Q k → w.heap.size ≤ k) : Stp w w1 (LF x) (LF x1) := by
  refine ⟨Nat.le_trans hb.size T.size, fun k hk hS => (T.keep k (Nat.lt_of_lt_of_le hk hb.size) hS (fun e => by have := hQ k e; omega)).trans (hb.block k hk), fun k e => ?_⟩
  rcases T.new k e with e | e
  · exact .inl e
  · exact .inr (Nat.le_trans hb.size e)
def WrP (w0 w : World) (x : LB) (room : Int) (s : LS) (r : Bool × List S3) (e : Ending) (w' : World) : Prop :=
  ∃ x', e = .returned (.bool r.1) ∧ SameB x x' ∧ Lg w0 w' x' room { s with st := r.2 } ∧ Stp w w' (LF x) (LF x')
set_option maxRecDepth 1000000 in
set_option maxHeartbeats 4000000 in
theorem lwrite_calls {w0 w : World} {x : LB} {room : Int} {s : LS} (L : Lg w0 w x room s) (hne : s.st ≠ []) (at_ : Int) (A : Option Addr) (d : Nat) (b : List Int) (RA : Option Addr) (rc : Nat) (rs : List Bool)
    (hA : Kd.F (Kd.int .u8) w (fun k => ¬ LF x k) A b.length b) (hd : b.length ≤ d) (hby : ∀ x ∈ b, 0 ≤ x ∧ x ≤ 255) (hbl : b.length ≤ 9223372036854775807) (hR : Kd.F Kd.bool w (fun k => ¬ LF x k) RA rs.length rs) :
    Calls Tryz.prog 32 #[.pointer (some ⟨x.lg, 0, none⟩), .int .i64 at_, .slice A b.length d, .slice RA rs.length rc] w (WrP w0 w x room s (decide (needN s.st.length ≤ askN (fun t => writeR room t s.ep at_ b) rs s.st), askSt (fun t => writeR room t s.ep at_ b) rs s.st)) := by
  obtain ⟨An, cn, hvn, _, _⟩ := L.nd.slice
  rw [List.length_map, ← L.len] at hvn
  have hlen := L.len
  have hfew := L.few
  have hpos : 1 ≤ s.st.length := List.length_pos_iff.2 hne
  obtain ⟨f, hf⟩ : ∃ f : S3 → Int × S3, f = fun t => writeR room t s.ep at_ b := ⟨_, rfl⟩
  obtain ⟨W, hW⟩ : ∃ W, W = ((w.alloc (.cells #[.pointer (some ⟨x.lg, 0, none⟩)] 25)).alloc (.cells #[.int .i64 at_] 3)).alloc (.cells #[.slice A b.length d] 32) := ⟨_, rfl⟩
  have hWs : W.heap.size = w.heap.size + 3 := by rw [hW]; simp
  have hWb : Below w.heap.size w W := by rw [hW]; exact ((((Below.refl _ _).alloc (Nat.le_refl _) _).alloc (by simp) _).alloc (by simp; omega) _)
  have b0 : W.heap[w.heap.size]? = some (.cells #[.pointer (some ⟨x.lg, 0, none⟩)] 25 (0, 0)) := by
    rw [hW, heap_alloc_old _ _ (by simp; omega), heap_alloc_old _ _ (by simp), heap_alloc_new]
  have b1 : W.heap[w.heap.size + 1]? = some (.cells #[.int .i64 at_] 3 (0, 0)) := by
    rw [hW, heap_alloc_old _ _ (by simp)]
    have := heap_alloc_new (w.alloc (.cells #[.pointer (some ⟨x.lg, 0, none⟩)] 25)) (.cells #[.int .i64 at_] 3)
    simpa using this
  have b2 : W.heap[w.heap.size + 2]? = some (.cells #[.slice A b.length d] 32 (0, 0)) := by
    have := heap_alloc_new ((w.alloc (.cells #[.pointer (some ⟨x.lg, 0, none⟩)] 25)).alloc (.cells #[.int .i64 at_] 3)) (.cells #[.slice A b.length d] 32)
    rw [hW]; simpa using this
  have hWb2 : Below w.heap.size w (W.alloc (.cells #[.int .i32 0] 113)) := hWb.alloc hWb.size _
  have hold : ∀ k, k < W.heap.size → (W.alloc (.cells #[.int .i32 0] 113)).heap[k]? = W.heap[k]? := fun k hk => heap_alloc_old W _ hk
  have hcb : (W.alloc (.cells #[.int .i32 0] 113)).heap[W.heap.size]? = some (.cells #[.int .i32 0] 113 (0, 0)) := heap_alloc_new W _
  have key := asks_of (w0 := w0) (W := W.alloc (.cells #[.int .i32 0] 113)) (x := x) (room := room) (s := s) (f := f) (rs := rs) (B := W.heap.size) (Q := fun k => k = W.heap.size) (E := fun _ _ _ => True) (fn := 65)
    (caps := [.pointer (some ⟨w.heap.size, 0, none⟩), .pointer (some ⟨w.heap.size + 1, 0, none⟩), .pointer (some ⟨w.heap.size + 2, 0, none⟩)]) (NA := An) (RA := RA) (nc := cn) hvn (by simp) (by have := L.base.size; omega) rfl
    (fun w1 x1 hs T => stp_C hR hWb2 (fun k e => by omega) T) (fun _ _ _ _ _ _ => trivial) (fun _ _ _ _ _ => trivial) (fun _ _ _ _ _ _ => trivial)
    (fun k w1 x1 n t hk hr hs L1 T hn ht N hE hB => by
      have box : ∀ j, j < W.heap.size → w.heap.size ≤ j → w1.heap[j]? = W.heap[j]? := fun j hj hj2 => (T.keep j (by simp; omega) (fun e => by have := L.lf_lt e; omega) (by omega)).trans (hold j hj)
      have q0 := (box w.heap.size (by omega) (Nat.le_refl _)).trans b0
      have q1 := (box (w.heap.size + 1) (by omega) (by omega)).trans b1
      have q2 := (box (w.heap.size + 2) (by omega) (by omega)).trans b2
      have hcl := wclo_calls N x.lg w.heap.size (w.heap.size + 1) (w.heap.size + 2) s.ep at_ A d b ((blk_cell q0 0).trans rfl) ((blk_cell q1 0).trans rfl) ((blk_cell q2 0).trans rfl) (by have := L1.cells.2.2.2.1; rw [hs.1] at this; exact this) (stp_C hA hWb2 (fun k e => by omega) T) hd hby hbl
      refine hcl.mono ?_
      rintro e w2 ⟨n', rfl, N', T'⟩
      have hN' : NS w0 w2 n' n.gn n.gp room (f t).2 := by rw [hf]; exact N'
      obtain ⟨x2, h1, h2, h3, h4, _⟩ := node_step L1 hn ht hr N hN' T' hB
      exact ⟨by rw [hf], x2, h1, h2, T.step h4, h3, trivial⟩)
  have h0 : AskI w0 (W.alloc (.cells #[.int .i32 0] 113)) x room s f rs W.heap.size (fun k => k = W.heap.size) (fun _ _ _ => True) 0 0 (W.alloc (.cells #[.int .i32 0] 113)) :=
    ⟨x, SameB.refl x, by rw [part_zero]; exact L.below hWb2, (cnt_zero _ _ _).symm, Fr2.refl _ _ _, ⟨_, hcb⟩, trivial⟩
  have hask := ask_calls (rc := rc) (by omega) key (.inr rfl) h0
  have HASK := Lib.hid hask
  have HX := Lib.hid (And.intro L (And.intro hWb2 hlen))
  have HF := Lib.hid hf
  have HP := Lib.hid hpos
  have HWS := Lib.hid hWs
  subst hW
  obtain ⟨bl, hl⟩ : ∃ bl, bl = b.length := ⟨_, rfl⟩
  rw [← hl] at HASK ⊢
  have HBL := Lib.hid hl
  clear key h0 hask hvn hf L hWb hWb2 b0 b1 b2 hold hcb hA hR hby hd hlen hfew hpos hne hl hWs
  go_enter Tryz.func32, Tryz.ntmps32
  go_wp2_with fail
  refine HASK.out.mono ?_
  rintro e w' ⟨c, ⟨x1, hs, L1, hc, T, _, _⟩, rfl⟩
  have HZ := Lib.hid (And.intro hs (And.intro L1 (And.intro hc T)))
  clear hs L1 hc T
  go_wp2_with fail
  go_ret
  obtain ⟨hs, L1, hc, T⟩ := HZ.out
  obtain rfl := HBL.out
  rw [part_all] at L1
  rw [cnt_all] at hc
  refine ⟨x1, ?_, hs, ?_, ?_⟩
  · show Ending.returned (Value.bool (decide (needM s.st.length ≤ (c : Int)))) = Ending.returned (Value.bool (decide (needN s.st.length ≤ askN (fun t => writeR room t s.ep at_ b) rs s.st)))
    rw [hc, needM_N _ _ HP.out, HF.out]
  · rw [HF.out] at L1; exact L1
  · exact T.done HX.out.2.1 (fun k e => by have := HWS.out; omega)
end Go.Proofs.YtiinelmednbpmaaGreat.Slog
/- The walk of Append. -/
namespace Go.Proofs.YtiinelmednbpmaaGreat.Slog
open Go.RowKit Go.Maps Go.Proofs.YtiinelmednbpmaaGreatW.PrintWords Go.Proofs.YtiinelmednbpmaaGreatW.PrintMore Go.Proofs.YtiinelmednbpmaaGreat.Row Go.Proofs.YtiinelmednbpmaaGreat.Cut Go.Proofs.YtiinelmednbpmaaGreat.DiskM Go.Proofs.YtiinelmednbpmaaGreat.Quor Go.Proofs.YtiinelmednbpmaaGreat.Slot
open Go.Proofs.YtiinelmednbpmaaGreat.Pack (append_u8 empty_row)
open Go.Proofs.YtiinelmednbpmaaGreat.Crc (KB)
def SameL (x x' : LB) : Prop := x'.lg = x.lg ∧ x'.vd = x.vd ∧ x'.vn = x.vn ∧ x'.ns.map NB.gn = x.ns.map NB.gn
theorem SameL.refl (x : LB) : SameL x x := ⟨rfl, rfl, rfl, rfl⟩
theorem SameB.l {x x' : LB} (h : SameB x x') : SameL x x' := ⟨h.1, h.2.1, h.2.2.1, h.2.2.2.2⟩
theorem SameL.trans {x y z : LB} (h : SameL x y) (g : SameL y z) : SameL x z := ⟨g.1.trans h.1, g.2.1.trans h.2.1, g.2.2.1.trans h.2.2.1, g.2.2.2.trans h.2.2.2⟩
theorem Lg.eq {w0 w : World} {x : LB} {room : Int} {s s' : LS} (h : Lg w0 w x room s) (e : s = s') : Lg w0 w x room s' := e ▸ h
/-- A payload behind the others: what the two appends come to. -/
theorem append_mem {w0 w : World} {x : LB} {room : Int} {s : LS} (L : Lg w0 w x room s) (A : Option Addr) (c : Nat) (b : List Int) (hC : (Kd.int .u8).C w A b.length b) (hlen : s.row.length < 4096) (hb : b.length ≤ 2048) (hby : ∀ y ∈ b, 0 ≤ y ∧ y ≤ 255) :
    ∃ A3 c3 w3 v5 w5, (Builtin.append_ #[32, 32] 32 #[.slice (some ⟨w.heap.size, 0, none⟩) 0 0, .slice A b.length c]).run Tryz.prog (w.alloc (.cells #[] 5)).drew = .ok (.slice A3 b.length c3) w3 ∧
      (Builtin.append_ #[22, 22] 22 #[x.vr, .slice (some ⟨w3.heap.size, 0, none⟩) 1 1]).run Tryz.prog (w3.alloc (.cells #[.slice A3 b.length c3] 32)) = .ok v5 w5 ∧
      (∃ A5 n5 c5, v5 = .slice A5 n5 c5) ∧ (∃ u, w5.cell? ⟨x.lg, 4, none⟩ = some u ∧ w5.frozen? ⟨x.lg, 4, none⟩ = false) ∧ Below w.heap.size w w3 ∧
      Lg w0 (w5.setCell ⟨x.lg, 4, none⟩ v5) { x with vr := v5 } room { s with row := s.row ++ [b] } ∧ Stp w (w5.setCell ⟨x.lg, 4, none⟩ v5) (LF x) (LF { x with vr := v5 }) := by
  have hbw : Below w.heap.size w ((w.alloc (.cells #[] 5)).drew) := ((Below.refl w.heap.size w).alloc (Nat.le_refl _) (.cells #[] 5)).drew
  obtain ⟨A3, c3, w3, hrun1, hrow3, hgr3, _⟩ := append_u8 ((w.alloc (.cells #[] 5)).drew) w.heap.size _ [] ((empty_row w w.heap.size (Nat.le_refl _)).below (Below.refl _ _).drew) A c b (Kd.C_below hC hbw) (by simp; omega) (by simp)
  simp only [List.length_nil, Nat.zero_add, List.nil_append] at hrun1 hrow3 hgr3
  have hb23 : Below w.heap.size w w3 := hbw.grown hgr3 (by simp) (fun k hk => by
    have hk' : k = w.heap.size := by simpa [Value.ownBlock] using hk.symm
    omega)
  have hbx := (Below.refl w3.heap.size w3).alloc (Nat.le_refl _) (.cells #[.slice A3 b.length c3] 32)
  have hb24 : Below w.heap.size w (w3.alloc (.cells #[.slice A3 b.length c3] 32)) := below_step hb23 hbx
  have L4 := L.below hb24
  obtain ⟨zs, hz1, hz2, hz3⟩ := L4.row
  have hzl : zs.length = s.row.length := by rw [← hz2, List.length_map]
  obtain ⟨v5, w5, hrun2, hrow5, hgr5, hat5⟩ := append_row (w3.alloc (.cells #[.slice A3 b.length c3] 32)) w0.heap.size x.vr (zs.map RB.v) hz1 ⟨w3.heap.size, 0, none⟩ (.slice A3 b.length c3) ((blk_cell (heap_alloc_new w3 _) 0).trans rfl) rfl (by rw [List.length_map]; omega) L4.base.size
  have hlg4 := (Array.getElem?_eq_some_iff.1 L4.blk).1
  have hlgv : x.vr.ownBlock ≠ some x.lg := fun e => L.vrn _ e (.inl rfl)
  have hb5 := (hgr5.block x.lg hlg4 (fun e => hlgv e.symm)).trans L4.blk
  have hsz5 := hgr5.size
  have hsz4 := hb24.size
  have hsz3 := hb23.size
  have hw34 : w3.heap.size < (w3.alloc (.cells #[.slice A3 b.length c3] 32)).heap.size := by simp
  have hv5lg : ∀ k, v5.ownBlock = some k → k ≠ x.lg := fun k hk e => by
    rcases hat5 with q | ⟨j, q, hj⟩
    · rw [q, e] at hk; exact hlgv hk
    · rw [q] at hk; injection hk with hk; omega
  have hbase : Below w0.heap.size w0 (w5.setCell ⟨x.lg, 4, none⟩ v5) := below_set (L4.base.grown hgr5 L4.base.size (fun k e => (L4.row.lt e).1)) L.low
  have hold : ∀ k, k < (w3.alloc (.cells #[.slice A3 b.length c3] 32)).heap.size → k ≠ x.lg → x.vr.ownBlock ≠ some k → (w5.setCell ⟨x.lg, 4, none⟩ v5).heap[k]? = (w3.alloc (.cells #[.slice A3 b.length c3] 32)).heap[k]? := fun k hk h1 h2 =>
    (set_other _ h1).trans (hgr5.block k hk (fun e => h2 e.symm))
  have hT := L4.turn (v' := v5) (s' := { s with row := s.row ++ [b] }) hbase (by simp; omega) hold (heap_setCell_same w5 x.lg 4 _ 63 v5 hb5) rfl ?_ ?_ ?_ ?_
  · refine ⟨A3, c3, w3, v5, w5, hrun1, hrun2, ?_, ?_, hb23, hT.1, (Stp.of_below _ hb24).trans hT.2⟩
    · obtain ⟨A5, c5, h5, _⟩ := hrow5.slice
      exact ⟨_, _, _, h5⟩
    · exact ⟨_, (blk_cell hb5 4).trans rfl, blk_frozen hb5 4⟩
  · refine ⟨zs ++ [⟨A3, c3, b⟩], ?_, by rw [List.map_append, hz2]; rfl, fun z hz => ?_⟩
    · rw [List.map_append]
      exact hrow5.move fun k hk => set_other _ (hv5lg k hk)
    · rcases List.mem_append.1 hz with hz | hz
      · obtain ⟨hr, ho⟩ := hz3 z hz
        refine ⟨hr.move fun k hk => ?_, fun k hk e => ?_⟩
        · exact hold k (hr.lt k hk).2.1 (fun e => ho k hk (.inl (.inl e))) (fun e => ho k hk (.inr e.symm))
        · rcases e with e | e
          · exact ho k hk (.inl e)
          · rcases hat5 with q | ⟨j, q, hj⟩
            · exact ho k hk (.inr (e.trans q))
            · have h1 := (hr.lt k hk).2.1
              have h2 : some k = some j := e.trans q
              injection h2 with h2
              omega
      · obtain rfl := List.mem_singleton.1 hz
        have hr := hrow3
        have hfresh : ∀ k, (Value.slice A3 b.length c3).ownBlock = some k → w.heap.size ≤ k ∧ k < w3.heap.size := fun k hk => ⟨(hr.lt k hk).1, (hr.lt k hk).2.1⟩
        refine ⟨row_low ((hr.below hbx).move fun k hk => ?_) L.base.size, fun k hk e => ?_⟩
        · obtain ⟨f1, f2⟩ := hfresh k hk
          refine hold k (by omega) (fun e => ?_) (fun e => ?_)
          · have := (L.core_lt (k := k) (.inl e)).2; omega
          · have := (L.row.lt e).2.1; omega
        · obtain ⟨f1, f2⟩ := hfresh k hk
          rcases e with e | e
          · have := (L.core_lt (k := k) e).2; omega
          · rcases hat5 with q | ⟨j, q, hj⟩
            · have := (L.row.lt (k := k) (q ▸ e.symm)).2.1; omega
            · have h2 : some k = some j := e.trans q
              injection h2 with h2
              omega
  · intro k hk e
    rcases hat5 with q | ⟨j, q, hj⟩
    · exact L.vrn k (q ▸ hk) e
    · rw [q] at hk
      injection hk with hk
      have := (L.core_lt e).2; omega
  · refine ⟨by simp only [List.length_append, List.length_singleton]; omega, fun y hy => ?_⟩
    rcases List.mem_append.1 hy with hy | hy
    · exact L.rng.2 y hy
    · rw [List.mem_singleton.1 hy]; exact ⟨hb, hby⟩
  · intro k hk
    rcases hat5 with q | ⟨j, q, hj⟩
    · exact .inl (q ▸ hk)
    · rw [q] at hk; injection hk with hk; exact .inr (by omega)
def ApP (w0 w : World) (x : LB) (room : Int) (r : Int × Int × LS) (e : Ending) (w' : World) : Prop :=
  ∃ x', e = .returned (.tuple #[.int .i64 r.1, .int .i64 r.2.1]) ∧ SameL x x' ∧ Lg w0 w' x' room r.2.2 ∧ Stp w w' (LF x) (LF x')
set_option maxRecDepth 1000000 in
set_option maxHeartbeats 8000000 in
theorem lappend_calls {w0 w : World} {x : LB} {room : Int} {s : LS} (L : Lg w0 w x room s) (hne : s.st ≠ []) (A : Option Addr) (d : Nat) (b : List Int) (RA : Option Addr) (rc : Nat) (rs : List Bool)
    (hA : Kd.F (Kd.int .u8) w (fun k => ¬ LF x k) A b.length b) (hd : b.length ≤ d) (hby : ∀ x ∈ b, 0 ≤ x ∧ x ≤ 255) (hbl : b.length ≤ 9223372036854775807) (hR : Kd.F Kd.bool w (fun k => ¬ LF x k) RA rs.length rs) :
    Calls Tryz.prog 12 #[.pointer (some ⟨x.lg, 0, none⟩), .slice A b.length d, .slice RA rs.length rc] w (ApP w0 w x room (appendF room b rs s)) := by
  obtain ⟨a0, a1, a2, a3, a4, af⟩ := L.cells
  obtain ⟨Ar, cr, hvr, _, _⟩ := L.row.reads
  have hrl := L.rng.1
  have HL := Lib.hid L
  rw [hvr] at a4
  have HVr := Lib.hid hvr
  have HRow := Lib.hid (show s.row.length = s.row.length from rfl)
  clear L hvr a0 a1 a3 af
  by_cases h1 : s.opn = false
  · have hF : appendF room b rs s = (0, 8, s) := by unfold appendF; rw [if_pos h1]
    rw [h1] at a2
    rw [hF]
    clear hA hd hby hbl hR hF h1 a4
    go_enter Tryz.func12, Tryz.ntmps12
    go_wp2_with fail
    go_ret2
    exact ⟨x, rfl, SameL.refl x, HL.out, Stp.refl _ _⟩
  · have h1' : s.opn = true := by simpa using h1
    rw [h1'] at a2
    by_cases h2 : b.length = 0 ∨ 2048 < b.length
    · have hF : appendF room b rs s = (0, 2, s) := by unfold appendF; rw [if_neg h1, if_pos h2]
      rw [hF]
      obtain ⟨bl, hl⟩ : ∃ bl, bl = b.length := ⟨_, rfl⟩
      rw [← hl] at h2 hbl ⊢
      clear hA hd hby hR hF h1 h1' a4 hl
      by_cases h3 : bl = 0
      · subst h3
        clear h2
        go_enter Tryz.func12, Tryz.ntmps12
        go_wp2_with fail
        go_ret2
        exact ⟨x, rfl, SameL.refl x, HL.out, Stp.refl _ _⟩
      · have h4 : 2048 < (bl : Int) := by omega
        have h5 : (bl == 0) = false := by simpa using h3
        clear h2 h3
        go_enter Tryz.func12, Tryz.ntmps12
        go_wp2_with fail
        go_ret2
        exact ⟨x, rfl, SameL.refl x, HL.out, Stp.refl _ _⟩
    · by_cases h6 : 4096 ≤ s.row.length
      · have hF : appendF room b rs s = (0, 3, s) := by unfold appendF; rw [if_neg h1, if_neg h2, if_pos h6]
        rw [hF]
        obtain ⟨bl, hl⟩ : ∃ bl, bl = b.length := ⟨_, rfl⟩
        rw [← hl] at h2 hbl ⊢
        obtain ⟨n, hn⟩ : ∃ n, n = s.row.length := ⟨_, rfl⟩
        rw [← hn] at h6 hrl a4
        have h5 : (bl == 0) = false := by simpa using (by omega : bl ≠ 0)
        have h5i : ((bl : Int) == 0) = false := beq_eq_false_iff_ne.2 (by omega)
        have h5n : ¬ bl = 0 := by omega
        have h7 : (bl : Int) ≤ 2048 := by omega
        have h8 : (4096 : Int) ≤ (n : Int) := by omega
        clear hA hd hby hR hF h1 h1' hl hn h2 h6
        go_enter Tryz.func12, Tryz.ntmps12
        go_wp2_with fail
        go_ret2
        exact ⟨x, rfl, SameL.refl x, HL.out, Stp.refl _ _⟩
      · have hwr := lwrite_calls HL.out hne (s.row.length : Int) A d b RA rc rs hA hd hby hbl hR
        have hF : appendF room b rs s = if needN s.st.length ≤ askN (fun t => writeR room t s.ep s.row.length b) rs s.st then ((s.row.length : Int), 0, ⟨askSt (fun t => writeR room t s.ep s.row.length b) rs s.st, true, s.ep, s.row ++ [b]⟩) else (0, 8, ⟨askSt (fun t => writeR room t s.ep s.row.length b) rs s.st, false, s.ep, s.row⟩) := by
          unfold appendF; rw [if_neg h1, if_neg h2, if_neg h6]
        obtain ⟨st', hst'⟩ : ∃ st', st' = askSt (fun t => writeR room t s.ep s.row.length b) rs s.st := ⟨_, rfl⟩
        rw [← hst'] at hF hwr
        have HFF := Lib.hid hF
        have HA := Lib.hid hA; have HBy := Lib.hid hby
        obtain ⟨bl, hl⟩ : ∃ bl, bl = b.length := ⟨_, rfl⟩
        obtain ⟨n, hn⟩ : ∃ n, n = s.row.length := ⟨_, rfl⟩
        rw [← hl] at hwr hbl h2 ⊢
        rw [← hn] at hwr h6 hrl a4
        have h5 : (bl == 0) = false := by simpa using (by omega : bl ≠ 0)
        have h5i : ((bl : Int) == 0) = false := beq_eq_false_iff_ne.2 (by omega)
        have h5n : ¬ bl = 0 := by omega
        have h7 : (bl : Int) ≤ 2048 := by omega
        have h8 : (n : Int) < 4096 := by omega
        have HB := Lib.hid (And.intro hl (And.intro hn (And.intro h1' hst')))
        clear hA hd hby hR hF h1 h1' hl hn h2 h6 hst'
        by_cases hq : needN s.st.length ≤ askN (fun t => writeR room t s.ep s.row.length b) rs s.st
        · rw [decide_eq_true (by rw [HB.out.2.1]; exact hq)] at hwr
          rw [if_pos hq] at HFF
          clear hq
          go_enter Tryz.func12, Tryz.ntmps12
          go_wp2_with fail
          refine hwr.mono ?_
          rintro e w1 ⟨x1, rfl, hs, L1, T1⟩
          have hC1 : (Kd.int .u8).C w1 A b.length b := HA.out w1 fun k hk hlt => T1.keep k hlt hk
          obtain ⟨A3, c3, w3, v5, w5, hrun1, hrun2, ⟨A5, n5, c5, rfl⟩, ⟨u5, g1, f1⟩, hb13, L5, T5⟩ := append_mem L1 A d b hC1 (by simp only; rw [← HB.out.2.1]; omega) (by rw [← HB.out.1]; omega) HBy.out
          have hvr1 : x1.vr = .slice Ar n cr := by rw [hs.2.2.2.1, HVr.out, HB.out.2.1]
          have d1 := L1.cells.2.2.2.2.1
          have e1 := (L1.below hb13).cells.2.2.2.2.1
          have e2 := ((L1.below hb13).below ((Below.refl w3.heap.size w3).alloc (Nat.le_refl _) (.cells #[.slice A3 b.length c3] 32))).cells.2.2.2.2.1
          have hlt1 := (Array.getElem?_eq_some_iff.1 L1.blk).1
          rw [hvr1] at d1 e1 e2 hrun2
          rw [hs.1] at d1 e1 e2 g1 f1 L5 T5 hlt1
          rw [← HB.out.1] at hrun1 hrun2 e2
          have HRun1 := Lib.hid hrun1; have HRun2 := Lib.hid hrun2
          have HX := Lib.hid (And.intro hs.l (And.intro L5 (T1.trans T5)))
          clear hs L1 T1 hC1 hrun1 hrun2 hb13 L5 T5 hvr1 hwr a2 a4
          go_wp2_with fail
          go_region_law (first
            | (refine step_append_run (by rfl) _ _ 32 (by rfl) _ _ _ (by rfl) (by rfl) HRun1.out ?_)
            | (refine step_append_run (by rfl) _ _ 22 (by rfl) _ _ _ (by rfl) (by rfl) HRun2.out ?_))
          all_goals
            go_wp2
            go_ret2
            obtain ⟨q1, q2, q3⟩ := HX.out
            obtain rfl := HB.out.2.1
            rw [HFF.out]
            exact ⟨{ lg := x.lg, vd := x1.vd, vn := x1.vn, vr := .slice A5 n5 c5, ns := x1.ns }, rfl, ⟨rfl, q1.2.1, q1.2.2.1, q1.2.2.2⟩, q2.eq (by rw [HB.out.2.2.1]), q3⟩
        · rw [decide_eq_false (by rw [HB.out.2.1]; exact hq)] at hwr
          rw [if_neg hq] at HFF
          clear hq
          go_enter Tryz.func12, Tryz.ntmps12
          go_wp2_with fail
          refine hwr.mono ?_
          rintro e w1 ⟨x1, rfl, hs, L1, T1⟩
          have hset := L1.setOpn false
          have hf1 := L1.cells.2.2.2.2.2 2
          have k1 := L1.cells.2.2.1
          rw [hs.1] at hset hf1 k1
          have HX := Lib.hid (And.intro hs.l (And.intro hset.1 (T1.trans hset.2)))
          clear hs L1 T1 hset hwr a2 a4
          go_wp2_with fail
          go_ret2
          rw [HFF.out]
          exact ⟨x1, rfl, HX.out⟩
end Go.Proofs.YtiinelmednbpmaaGreat.Slog
/- The walk of New. -/
namespace Go.Proofs.YtiinelmednbpmaaGreat.Slog
open Go.RowKit Go.Maps Go.Proofs.YtiinelmednbpmaaGreatW.PrintWords Go.Proofs.YtiinelmednbpmaaGreatW.PrintMore Go.Proofs.YtiinelmednbpmaaGreat.Row Go.Proofs.YtiinelmednbpmaaGreat.Cut Go.Proofs.YtiinelmednbpmaaGreat.DiskM Go.Proofs.YtiinelmednbpmaaGreat.Quor Go.Proofs.YtiinelmednbpmaaGreat.Slot
theorem infoDP : (Tryz.prog.info? 64).map (fun i => (i.zero, i.size, i.bytes)) = some (some (.pointer none), 1, 8) := by kernel_rfl
theorem infoNP : (Tryz.prog.info? 67).map (fun i => (i.zero, i.size, i.bytes)) = some (some (.pointer none), 1, 8) := by kernel_rfl
theorem append_ptr (t e : TypeId) (ht : Tryz.prog.underlying t = some (.slice e)) (hinfo : (Tryz.prog.info? e).map (fun i => (i.zero, i.size, i.bytes)) = some (some (.pointer none), 1, 8)) (w : World) (base : Nat) (v : Value) (xs : List Value) (hr : Row w base e v xs) (a : Addr) (u : Value) (hu : w.cell? a = some u) (h1 : u.oneCell' = true) (hlim : xs.length ≤ 1000) (hbase : base ≤ w.heap.size) :
    ∃ v' w', (Builtin.append_ #[t, t] t #[v, .slice (some a) 1 1]).run Tryz.prog w = .ok v' w' ∧ Row w' base e v' (xs ++ [u]) ∧ w.grownBy w' v.ownBlock ∧ (v'.ownBlock = v.ownBlock ∨ ∃ b, v'.ownBlock = some b ∧ w.heap.size ≤ b) := by
  obtain ⟨i, hi, hz, hs, hb⟩ := info_parts hinfo
  exact run_append (P := Tryz.prog) w base t t e i (.pointer none) 8 ht hi hz hs hb rfl v xs hr (some a) 1 [u] (fun _ => ⟨a, rfl, fun j y hj => by
    cases j with
    | zero =>
      have e0 : a.add 0 = a := by unfold Addr.add; simp
      rw [e0, hu]; simpa using hj
    | succ j => simp at hj⟩) (fun y hy => by simp at hy; rw [hy]; exact h1) (by simp; omega) (by simp; omega) hbase
section
variable {P : Program} {ops : Array Oper} {rest : List Oper} {o : Oper} {a : Act} {Q : Exit → Act → World → Prop}
theorem wp_append_run {w w' : World} (hgd : o.guard = none) (s x : Operand) (t : TypeId) (ho : o.op = .call { callee := .builtin .append, args := #[s, x], argTypes := #[t, t] }) (vs vx v' : Value) (hs : a.eval s = vs) (hx : a.eval x = vx) (hr : (Builtin.append_ #[t, t] o.type #[vs, vx]).run P w = .ok v' w')
    (h : wpList P ops Q rest (a.put o.dst v') w') : wpList P ops Q (o :: rest) a w := by
  refine wpList_plain hgd fun K hK => ?_
  unfold Oper.wp execOp
  simp only [ho, resolve, invoke, builtin, Sem.run_bind, Sem.run_pure, Result.andThen_ok, List.map_toArray, List.map_cons, List.map_nil, hs, hx, hr]
  exact hK _ _ h
end
theorem below_mk {w0 w w' : World} (h1 : Below w0.heap.size w0 w) (h2 : Below w0.heap.size w0 w') (hsz : w.heap.size ≤ w'.heap.size) (hk : ∀ k, k < w.heap.size → w'.heap[k]? = w.heap[k]?) : Below w.heap.size w w' :=
  ⟨h2.os.trans h1.os.symm, h2.tape.trans h1.tape.symm, h2.output.trans h1.output.symm, hsz, hk⟩
/-- A disk more, the node not yet. -/
structure Half (w0 wr w3 : World) (x : LB) (s : LS) (room : Int) (vd2 : Value) (gd : Nat) : Prop where
  D : Dk w0 w3 gd (.slice none 0 0) room [] 0
  row : Row w3 w0.heap.size 64 vd2 (x.ns.map dptr ++ [.pointer (some ⟨gd, 0, none⟩)])
  blk : w3.heap[x.lg]? = some (.cells #[vd2, x.vn, .bool s.opn, .int .i64 s.ep, x.vr] 63 (0, 0))
  keep : ∀ k, k < wr.heap.size → k ≠ x.lg → x.vd.ownBlock ≠ some k → w3.heap[k]? = wr.heap[k]?
  size : wr.heap.size ≤ w3.heap.size
  new : ∀ k, vd2.ownBlock = some k → x.vd.ownBlock = some k ∨ wr.heap.size ≤ k
  gd : wr.heap.size ≤ gd
theorem push1 {w0 wr w1 : World} {x : LB} {room : Int} {s : LS} (L : Lg w0 wr x room s) (hb1 : Below wr.heap.size wr w1) {gd : Nat} (hgd : wr.heap.size ≤ gd) (D : Dk w0 w1 gd (.slice none 0 0) room [] 0) :
    ∃ vd2 w2, (Builtin.append_ #[60, 60] 60 #[x.vd, .slice (some ⟨w1.heap.size, 0, none⟩) 1 1]).run Tryz.prog (w1.alloc (.cells #[.pointer (some ⟨gd, 0, none⟩)] 64)) = .ok vd2 w2 ∧ (∃ A n c, vd2 = .slice A n c) ∧ (∃ u, w2.cell? ⟨x.lg, 0, none⟩ = some u ∧ w2.frozen? ⟨x.lg, 0, none⟩ = false) ∧
      Half w0 wr (w2.setCell ⟨x.lg, 0, none⟩ vd2) x s room vd2 gd := by
  have LA := L.below hb1
  have hba := (Below.refl w1.heap.size w1).alloc (Nat.le_refl _) (.cells #[.pointer (some ⟨gd, 0, none⟩)] 64)
  have LB' := LA.below hba
  have hns := L.few
  obtain ⟨vd2, w2, hrun, hrow, hgr, hat⟩ := append_ptr 60 64 Tryz.underlying60 infoDP _ w0.heap.size x.vd _ LB'.dk ⟨w1.heap.size, 0, none⟩ (.pointer (some ⟨gd, 0, none⟩)) ((blk_cell (heap_alloc_new w1 _) 0).trans rfl) rfl (by rw [List.length_map]; omega) LB'.base.size
  have hgd1 : gd < w1.heap.size := (Array.getElem?_eq_some_iff.1 D.blk).1
  have hlg := (Array.getElem?_eq_some_iff.1 L.blk).1
  have hs1 := hb1.size
  have hs2 := hgr.size
  have hsA : (w1.alloc (.cells #[.pointer (some ⟨gd, 0, none⟩)] 64)).heap.size = w1.heap.size + 1 := by simp
  have hlgv : some x.lg ≠ x.vd.ownBlock := fun e => by
    obtain ⟨_, _, cur, hc⟩ := L.dk.lt x.lg e.symm
    exact blk_ne hc L.blk (by decide) rfl
  have hb2 := (hgr.block x.lg (by omega) hlgv).trans LB'.blk
  have hv2lg : ∀ k, vd2.ownBlock = some k → k ≠ x.lg := fun k hk e => by
    rcases hat with q | ⟨j, q, hj⟩
    · rw [q, e] at hk; exact hlgv hk.symm
    · rw [q] at hk; injection hk with hk; omega
  have hbase : Below w0.heap.size w0 (w2.setCell ⟨x.lg, 0, none⟩ vd2) := below_set (LB'.base.grown hgr LB'.base.size (fun k e => (L.dk.lt k e).1)) L.low
  have hgdv : some gd ≠ x.vd.ownBlock := fun e => by
    have := (L.dk.lt gd e.symm).2.1; omega
  refine ⟨vd2, w2, hrun, ?_, ⟨_, (blk_cell hb2 0).trans rfl, blk_frozen hb2 0⟩, ⟨?_, hrow.move fun k hk => set_other _ (hv2lg k hk), heap_setCell_same w2 x.lg 0 _ 63 vd2 hb2, fun k hk h1 h2 => ?_, by simp; omega, fun k hk => ?_, hgd⟩⟩
  · obtain ⟨A5, c5, h5, _⟩ := hrow.slice
    exact ⟨_, _, _, h5⟩
  · refine (D.step hba).keep hbase fun k hk => ?_
    rcases hk with rfl | hk
    · exact (set_other _ (by omega)).trans (hgr.block k (by omega) hgdv)
    · simp [Value.ownBlock] at hk
  · exact (set_other _ h1).trans ((hgr.block k (by omega) (fun e => h2 e.symm)).trans ((hba.block k (by omega)).trans (hb1.block k hk)))
  · rcases hat with q | ⟨j, q, hj⟩
    · exact .inl (q ▸ hk)
    · rw [q] at hk; injection hk with hk; exact .inr (by omega)
theorem push2 {w0 wr w3 w4 : World} {x : LB} {room : Int} {s : LS} {vd2 : Value} {gd g : Nat} {n' : NB} {P : Nat → Prop} (L : Lg w0 wr x room s) (h7 : x.ns.length < 7) (H : Half w0 wr w3 x s room vd2 gd) (hP : ∀ k, k < wr.heap.size → P k)
    (N : NS w0 w4 n' g (gd, P) room (0, [], [])) (T : Stp w3 w4 (DB gd (.slice none 0 0)) (SN n')) :
    ∃ v5 w5, (Builtin.append_ #[61, 61] 61 #[x.vn, .slice (some ⟨w4.heap.size, 0, none⟩) 1 1]).run Tryz.prog (w4.alloc (.cells #[.pointer (some ⟨g, 0, none⟩)] 67)) = .ok v5 w5 ∧ (∃ A n c, v5 = .slice A n c) ∧ (∃ u, w5.cell? ⟨x.lg, 1, none⟩ = some u ∧ w5.frozen? ⟨x.lg, 1, none⟩ = false) ∧
      ∃ ns', Lg w0 (w5.setCell ⟨x.lg, 1, none⟩ v5) ⟨x.lg, vd2, v5, x.vr, ns'⟩ room { s with st := s.st ++ [(0, [], [])] } ∧ (∀ k, v5.ownBlock = some k → x.vn.ownBlock = some k ∨ wr.heap.size ≤ k) ∧ wr.heap.size ≤ (w5.setCell ⟨x.lg, 1, none⟩ v5).heap.size ∧ (∀ k, k < wr.heap.size → k ≠ x.lg → x.vd.ownBlock ≠ some k → x.vn.ownBlock ≠ some k → (w5.setCell ⟨x.lg, 1, none⟩ v5).heap[k]? = wr.heap[k]?) := by
  have hg1 : n'.gn = g := N.1
  have hgp : n'.gp = (gd, P) := N.2.1
  have hlg := (Array.getElem?_eq_some_iff.1 L.blk).1
  have hgd := H.gd
  have hs3 := H.size
  have hs4 := T.size
  have hns := L.few
  have k4 : ∀ k, k < w3.heap.size → k ≠ gd → w4.heap[k]? = w3.heap[k]? := fun k hk hn => T.keep k hk fun e => by
    rcases e with e | e
    · exact hn e
    · simp [Value.ownBlock] at e
  have hnn : ∀ k, x.vn.ownBlock = some k → w4.heap[k]? = wr.heap[k]? := fun k hk => by
    obtain ⟨_, hlt, cur, hc⟩ := L.nd.lt k hk
    refine (k4 k (by omega) (by omega)).trans (H.keep k hlt (blk_ne hc L.blk (by decide)) fun e => ?_)
    obtain ⟨_, _, cur2, hc2⟩ := L.dk.lt k e
    exact blk_ne hc hc2 (by decide) rfl
  have hba := (Below.refl w4.heap.size w4).alloc (Nat.le_refl _) (.cells #[.pointer (some ⟨g, 0, none⟩)] 67)
  have hbase4 := N.all
  obtain ⟨v5, w5, hrun, hrow, hgr, hat⟩ := append_ptr 61 67 Tryz.underlying61 infoNP _ w0.heap.size x.vn _ ((L.nd.move hnn).below hba) ⟨w4.heap.size, 0, none⟩ (.pointer (some ⟨g, 0, none⟩)) ((blk_cell (heap_alloc_new w4 _) 0).trans rfl) rfl (by rw [List.length_map]; omega) (Nat.le_trans hbase4.size hba.size)
  have hs5 := hgr.size
  have hsA : (w4.alloc (.cells #[.pointer (some ⟨g, 0, none⟩)] 67)).heap.size = w4.heap.size + 1 := by simp
  have hlgv : some x.lg ≠ x.vn.ownBlock := fun e => by
    obtain ⟨_, _, cur, hc⟩ := L.nd.lt x.lg e.symm
    exact blk_ne hc L.blk (by decide) rfl
  have hb4 := (k4 x.lg (by omega) (by omega)).trans H.blk
  have hb5 := (hgr.block x.lg (by omega) hlgv).trans ((hba.block x.lg (by omega)).trans hb4)
  have hv5lg : ∀ k, v5.ownBlock = some k → k ≠ x.lg := fun k hk e => by
    rcases hat with q | ⟨j, q, hj⟩
    · rw [q, e] at hk; exact hlgv hk.symm
    · rw [q] at hk; injection hk with hk; omega
  have hnew : ∀ k, v5.ownBlock = some k → x.vn.ownBlock = some k ∨ wr.heap.size ≤ k := fun k hk => by
    rcases hat with q | ⟨j, q, hj⟩
    · exact .inl (q ▸ hk)
    · rw [q] at hk; injection hk with hk; exact .inr (by omega)
  have hbase : Below w0.heap.size w0 (w5.setCell ⟨x.lg, 1, none⟩ v5) := below_set ((below_then hbase4 hbase4.size hba).grown hgr (Nat.le_trans hbase4.size hba.size) (fun k e => (L.nd.lt k e).1)) L.low
  have hkeep : ∀ k, k < wr.heap.size → k ≠ x.lg → x.vd.ownBlock ≠ some k → x.vn.ownBlock ≠ some k → (w5.setCell ⟨x.lg, 1, none⟩ v5).heap[k]? = wr.heap[k]? := fun k hk h1 h2 h3 =>
    (set_other _ h1).trans ((hgr.block k (by omega) (fun e => h3 e.symm)).trans ((hba.block k (by omega)).trans ((k4 k (by omega) (by omega)).trans (H.keep k hk h1 h2))))
  have hsz : wr.heap.size ≤ (w5.setCell ⟨x.lg, 1, none⟩ v5).heap.size := by simp; omega
  have h45 : ∀ k, k < w4.heap.size → k ≠ x.lg → x.vn.ownBlock ≠ some k → (w5.setCell ⟨x.lg, 1, none⟩ v5).heap[k]? = w4.heap[k]? := fun k hk h1 h2 =>
    (set_other _ h1).trans ((hgr.block k (by omega) (fun e => h2 e.symm)).trans (hba.block k hk))
  have hSN : ∀ k, SN n' k → wr.heap.size ≤ k := fun k hk => by
    rcases T.new k hk with e | e
    · rcases e with e | e
      · omega
      · simp [Value.ownBlock] at e
    · omega
  have N5 : NS w0 (w5.setCell ⟨x.lg, 1, none⟩ v5) n' g (gd, P) room (0, [], []) := NS.but N hbase (by simp; omega) fun k hk hh => by
    rcases hh with hh | ⟨cs, hh⟩
    · refine h45 k hk (fun e => ?_) (fun e => ?_)
      · have := hSN k hh; omega
      · have := hSN k hh
        have := (L.nd.lt k e).2.1; omega
    · refine h45 k hk (blk_ne hh hb4 (by decide)) (fun e => ?_)
      obtain ⟨_, _, cur, hc⟩ := (L.nd.move hnn).lt k e
      exact blk_ne hh hc (by decide) rfl
  refine ⟨v5, w5, hrun, ?_, ⟨_, (blk_cell hb5 1).trans rfl, blk_frozen hb5 1⟩, _, L.push h7 (n' := n') (t' := (0, [], [])) (vd' := vd2) (vn' := v5) (by rw [hg1, hgp]; exact N5) (fun k hk => ?_) hSN hsz hkeep (heap_setCell_same w5 x.lg 1 _ 63 v5 hb5) ?_ ?_ H.new hnew, hnew, hsz, hkeep⟩
  · obtain ⟨A5, c5, h5, _⟩ := hrow.slice
    exact ⟨_, _, _, h5⟩
  · have : n'.P = P := congrArg Prod.snd hgp
    rw [this]; exact hP k hk
  · have : n'.gd = gd := congrArg Prod.fst hgp
    show Row _ _ _ vd2 (x.ns.map dptr ++ [dptr n'])
    rw [show dptr n' = .pointer (some ⟨gd, 0, none⟩) from by show Value.pointer _ = Value.pointer _; rw [this]]
    refine H.row.move fun k hk => ?_
    obtain ⟨_, hlt, cur, hc⟩ := H.row.lt k hk
    have hk4 := k4 k hlt (fun e => by rw [e, H.D.blk] at hc; cases hc)
    refine (h45 k (by omega) (fun e => ?_) (fun e => ?_)).trans hk4
    · rw [e, H.blk] at hc; cases hc
    · obtain ⟨_, _, cur2, hc2⟩ := (L.nd.move hnn).lt k e
      rw [hk4] at hc2
      exact blk_ne hc hc2 (by decide) rfl
  · show Row _ _ _ v5 (x.ns.map nptr ++ [nptr n'])
    rw [show nptr n' = .pointer (some ⟨g, 0, none⟩) from by show Value.pointer _ = Value.pointer _; rw [hg1]]
    exact hrow.move fun k hk => set_other _ (hv5lg k hk)
def zeros (n : Nat) : LS := ⟨List.replicate n (0, [], []), false, 0, []⟩
def NewP (w0 w : World) (n : Nat) (room : Int) (e : Ending) (w' : World) : Prop := ∃ x, e = .returned (.tuple #[.pointer (some ⟨x.lg, 0, none⟩), .int .i64 0]) ∧ Lg w0 w' x room (zeros n) ∧ Below w.heap.size w w'
set_option maxRecDepth 1000000 in
set_option maxHeartbeats 8000000 in
theorem lnew_calls {w0 w : World} (hb : Below w0.heap.size w0 w) (n : Nat) (hn : n = 1 ∨ n = 3 ∨ n = 5 ∨ n = 7) (room : Int) (h0 : 0 ≤ room) (h1 : room ≤ 1048576) :
    Calls Tryz.prog 10 #[.int .i64 n, .int .i64 room] w (NewP w0 w n room) := by
  have hn1 : (1 : Int) ≤ (n : Int) := by omega
  have hn7 : (n : Int) ≤ 7 := by omega
  have hm : ((n : Int) % 2 == 0) = false := by rcases hn with rfl | rfl | rfl | rfl <;> decide
  have hm2 : (Int.tmod (n : Int) 2 == 0) = false := by rcases hn with rfl | rfl | rfl | rfl <;> decide
  have hlg0 := heap_alloc_new w (.cells #[.slice none 0 0, .slice none 0 0, .bool false, .int .i64 0, .slice none 0 0] 63)
  have hb0 : Below w.heap.size w (w.alloc (.cells #[.slice none 0 0, .slice none 0 0, .bool false, .int .i64 0, .slice none 0 0] 63)) := (Below.refl _ _).alloc (Nat.le_refl _) _
  have L0 : Lg w0 (w.alloc (.cells #[.slice none 0 0, .slice none 0 0, .bool false, .int .i64 0, .slice none 0 0] 63)) ⟨w.heap.size, .slice none 0 0, .slice none 0 0, .slice none 0 0, []⟩ room (zeros 0) :=
    ⟨hb.alloc hb.size _, hb.size, hlg0, Row.nil _ _ _, Row.nil _ _ _, fun k hk => by simp [Value.ownBlock] at hk, RowB.nil _ _ _, ⟨by simp [zeros], fun b hb => by simp [zeros] at hb⟩, rfl, by simp, fun i n t hn => by simp at hn, fun i j n n' _ hn => by simp at hn⟩
  have HL0 := Lib.hid (And.intro L0 hb0)
  have HBW := Lib.hid hb
  clear hlg0 hb0 L0 hb hn
  go_enter Tryz.func10, Tryz.ntmps10
  go_wp2_with fail
  go_loopw [23] (fun i wr => ∃ (k : Nat) (x : LB), k ≤ n ∧ i = .int .i64 k ∧ x.lg = w.heap.size ∧ Lg w0 wr x room (zeros k) ∧ Below w.heap.size w wr ∧ ∀ j, x.vd.ownBlock = some j ∨ x.vn.ownBlock = some j → w.heap.size ≤ j) (fun i _ => n - (intOf i).toNat)
  case atStart => exact ⟨0, _, Nat.zero_le _, rfl, rfl, HL0.out.1, HL0.out.2, fun j hj => by simp [Value.ownBlock] at hj⟩
  case round =>
    obtain ⟨k, x, hk, rfl, hlg, L, hbw, hlo⟩ := hrel
    rename World => wr
    by_cases hlt : k < n
    · have hlti : (k : Int) < (n : Int) := by omega
      have hk0 : (0 : Int) ≤ (k : Int) := by omega
      have hnew := new_ok (w0 := w0) (w := wr) room L.base h0 h1
      have HL := Lib.hid (And.intro L (And.intro hbw hlo))
      have c0 := L.cells.1
      rw [hlg] at c0
      obtain ⟨Ad, cd, hvd, _, _⟩ := L.dk.slice
      rw [List.length_map] at hvd
      rw [hvd] at c0
      clear L hbw hlo
      go_wp2_with fail
      refine hnew.mono ?_
      rintro e w1 ⟨rfl, D, hb1⟩
      obtain ⟨vd2, w2, hrun1, ⟨A2, n2, c2, rfl⟩, ⟨u2, g2, f2⟩, H⟩ := push1 HL.out.1 hb1 (Nat.le_refl _) D
      have d0 := (HL.out.1.below hb1).cells.1
      have HH := Lib.hid H; have HRun1 := Lib.hid hrun1
      rw [hlg] at g2 f2 d0 HH
      rw [hvd] at HRun1 d0
      clear hnew D hb1 H hrun1
      go_wp2_with (at_builtin; refine wp_append_run rfl _ _ 60 (by rfl) _ _ _ (by rfl) (by rfl) HRun1.out ?_)
      obtain ⟨w3, hw3⟩ : ∃ w3, w3 = w2.setCell ⟨w.heap.size, 0, none⟩ (.slice A2 n2 c2) := ⟨_, rfl⟩
      rw [← hw3] at HH ⊢
      have hop := open_new (gd := (wr.heap.size, fun k => k < w3.heap.size)) (HH.out.D.step (Below.refl _ _).drew) (fun k hk => hk)
      have HOP : Hid (Calls Tryz.prog 27 #[.pointer (some ⟨wr.heap.size, 0, none⟩)] w3.drew (OpenNP w0 w3.drew (wr.heap.size, fun k => k < w3.heap.size) (.slice none 0 0) room (0, [], []))) := Lib.hid hop
      obtain ⟨An, cn, hvn, _, _⟩ := HL.out.1.nd.slice
      rw [List.length_map] at hvn
      have b3 := HH.out.blk
      rw [hlg] at b3
      have e1 : w3.cell? ⟨w.heap.size, 1, none⟩ = some (.slice An x.ns.length cn) := ((blk_cell b3 1).trans rfl).trans (congrArg some hvn)
      have hlt3 := (Array.getElem?_eq_some_iff.1 b3).1
      have hlgr : w.heap.size < wr.heap.size := by have := (Array.getElem?_eq_some_iff.1 HL.out.1.blk).1; rw [hlg] at this; exact this
      have H7 : Hid (x.ns.length < 7) := Lib.hid (by have := HL.out.1.len; simp [zeros] at this; omega)
      have HLg := Lib.hid hlg; have HVn := Lib.hid hvn; have HVd := Lib.hid hvd; have HB3 := Lib.hid b3
      clear hop hw3 hlg hvn hvd b3 d0 c0 g2 f2
      have HPUSH : Hid (∀ w4 n' g, NS w0 w4 n' g (wr.heap.size, fun k => k < w3.heap.size) room (0, [], []) → Stp w3 w4 (DB wr.heap.size (.slice none 0 0)) (SN n') →
          ∃ A5 n5 c5 w5, (Builtin.append_ #[61, 61] 61 #[.slice An x.ns.length cn, .slice (some ⟨w4.heap.size, 0, none⟩) 1 1]).run Tryz.prog (w4.alloc (.cells #[.pointer (some ⟨g, 0, none⟩)] 67)) = .ok (.slice A5 n5 c5) w5 ∧
            w4.cell? ⟨w.heap.size, 1, none⟩ = some (.slice An x.ns.length cn) ∧ (w4.alloc (.cells #[.pointer (some ⟨g, 0, none⟩)] 67)).cell? ⟨w.heap.size, 1, none⟩ = some (.slice An x.ns.length cn) ∧ (∃ u, w5.cell? ⟨w.heap.size, 1, none⟩ = some u ∧ w5.frozen? ⟨w.heap.size, 1, none⟩ = false) ∧
            ∃ ns', Lg w0 (w5.setCell ⟨w.heap.size, 1, none⟩ (.slice A5 n5 c5)) ⟨w.heap.size, .slice A2 n2 c2, .slice A5 n5 c5, x.vr, ns'⟩ room (zeros (k + 1)) ∧ Below w.heap.size w (w5.setCell ⟨w.heap.size, 1, none⟩ (.slice A5 n5 c5)) ∧ ∀ j, (Value.slice A2 n2 c2).ownBlock = some j ∨ (Value.slice A5 n5 c5).ownBlock = some j → w.heap.size ≤ j) := by
        refine Lib.hid fun w4 n' g N T => ?_
        obtain ⟨v5, w5, hrun2, ⟨A5, n5, c5, rfl⟩, hcell, ns', L5, hnew5, hsz5, hk5⟩ := push2 HL.out.1 H7.out HH.out (fun k hk => Nat.lt_of_lt_of_le hk HH.out.size) N T
        rw [HVn.out] at hrun2
        rw [HLg.out] at hcell L5 hsz5 hk5
        have hb4 := (T.keep w.heap.size hlt3 (fun e => by
          rcases e with e | e
          · omega
          · simp [Value.ownBlock] at e)).trans HB3.out
        have hlt4 : w.heap.size < w4.heap.size := Nat.lt_of_lt_of_le hlt3 T.size
        have q4 : w4.cell? ⟨w.heap.size, 1, none⟩ = some (.slice An x.ns.length cn) := ((blk_cell hb4 1).trans rfl).trans (congrArg some HVn.out)
        have q5 : (w4.alloc (.cells #[.pointer (some ⟨g, 0, none⟩)] 67)).cell? ⟨w.heap.size, 1, none⟩ = some (.slice An x.ns.length cn) := by
          have hb := (heap_alloc_old w4 (.cells #[.pointer (some ⟨g, 0, none⟩)] 67) hlt4).trans hb4
          exact ((blk_cell hb 1).trans rfl).trans (congrArg some HVn.out)
        have hlo := HL.out.2.2
        have hsr := HL.out.2.1.size
        refine ⟨A5, n5, c5, w5, hrun2, q4, q5, hcell, ns', L5.eq ?_, ?_, fun j hj => ?_⟩
        · simp [zeros, List.replicate_succ']
        · refine below_mk HBW.out L5.base (Nat.le_trans hsr hsz5) fun j hj => ?_
          refine (hk5 j (by omega) (by omega) (fun e => ?_) (fun e => ?_)).trans (HL.out.2.1.block j hj)
          · have := hlo j (.inl e); omega
          · have := hlo j (.inr e); omega
        · rcases hj with hj | hj
          · rcases HH.out.new j hj with q | q
            · exact hlo j (.inl q)
            · omega
          · rcases hnew5 j hj with q | q
            · exact hlo j (.inr q)
            · omega
      clear HH HL0 HL H7 HVn HVd HB3 HRun1
      go_region_law (first
        | (refine step_append_run (by rfl) _ _ 61 (by rfl) _ _ _ (by rfl) (by rfl) HRun2.out ?_)
        | (go_simp; go_at_call 27; refine HOP.out.mono ?_; rintro e w4 ⟨n', g, rfl, N, T⟩; obtain ⟨A5, n5, c5, w5, hrun2, q4, q5, ⟨u5, g5, f5⟩, ns', L5⟩ := HPUSH.out w4 n' g N ⟨T.size, T.keep, T.new⟩; have HRun2 := Lib.hid hrun2; have HL5 := Lib.hid L5; clear hrun2 L5 N T))
      all_goals
        go_wp2_with fail
        go_roundw
        case rel => exact ⟨k + 1, ⟨w.heap.size, .slice A2 n2 c2, .slice A5 n5 c5, x.vr, ns'⟩, by omega, by go_num, rfl, HL5.out⟩
        case measure => simp only [intOf]; omega
    · obtain rfl : k = n := by omega
      have HL := Lib.hid (And.intro L hbw)
      clear L hbw
      go_wp2_with fail
      go_ret2
      exact ⟨x, by rw [hlg]; rfl, HL.out⟩
end Go.Proofs.YtiinelmednbpmaaGreat.Slog
