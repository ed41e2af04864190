import Derived.Test.YtiinelmednbpmaaGreatLLaw
/- Plain: what a quorum has stays, whoever is asked then. -/
namespace Go.Proofs.YtiinelmednbpmaaGreat.Slog
open Go.Proofs.YtiinelmednbpmaaGreat.Slot Go.Proofs.YtiinelmednbpmaaGreat.Quor Go.Proofs.YtiinelmednbpmaaGreat.Crc
def Cls (st : List S3) : Prop := ∀ t ∈ st, Once t.2.1
def Top (st : List S3) (ep : Int) : Prop := ∀ t ∈ st, t.1 ≤ ep ∧ ∀ c ∈ t.2.1, c.2.1 ≤ ep
def HasI (st : List S3) (a e : Int) (i : Nat) : Prop := ∃ t, st[i]? = some t ∧ ∃ c ∈ t.2.1, c.1 = a ∧ e ≤ c.2.1
def Val (st : List S3) (a e : Int) (v : List Int) : Prop := ∀ t ∈ st, ∀ c ∈ t.2.1, c.1 = a → e ≤ c.2.1 → c.2.2 = v
def Quo (n : Nat) (p : Nat → Prop) : Prop := ∃ S : List Nat, S.Nodup ∧ (∀ i ∈ S, i < n ∧ p i) ∧ needN n ≤ S.length
/-- A quorum has the value at the slot, and nobody another one of so high an epoch. -/
def Chosen (st : List S3) (a : Int) (v : List Int) : Prop := ∃ e, Quo st.length (HasI st a e) ∧ Val st a e v
theorem quo_mono {n : Nat} {p q : Nat → Prop} (h : Quo n p) (hpq : ∀ i, i < n → p i → q i) : Quo n q := by
  obtain ⟨S, h1, h2, h3⟩ := h
  exact ⟨S, h1, fun i hi => ⟨(h2 i hi).1, hpq i (h2 i hi).1 (h2 i hi).2⟩, h3⟩
theorem quo_meet {n : Nat} {p q : Nat → Prop} (h : Quo n p) (g : Quo n q) : ∃ i, i < n ∧ p i ∧ q i := by
  obtain ⟨S, h1, h2, h3⟩ := h
  obtain ⟨S', g1, g2, g3⟩ := g
  by_cases hc : ∃ i, i ∈ S ∧ i ∈ S'
  · obtain ⟨i, a, b⟩ := hc
    exact ⟨i, (h2 i a).1, (h2 i a).2, (g2 i b).2⟩
  · exfalso
    have hn : (S ++ S').Pairwise (· ≠ ·) := List.pairwise_append.2 ⟨h1, g1, fun a ha b hb e => hc ⟨a, ha, by rw [e]; exact hb⟩⟩
    have hl := nodup_le n ((S ++ S').map fun i : Nat => (i : Int)) (by
      rw [List.pairwise_map]
      exact hn.imp fun h e => h (by omega)) (fun x hx => by
      obtain ⟨i, hi, rfl⟩ := List.mem_map.1 hx
      rcases List.mem_append.1 hi with hi | hi
      · have := (h2 i hi).1; omega
      · have := (g2 i hi).1; omega)
    rw [List.length_map, List.length_append] at hl
    unfold needN at h3 g3
    omega
theorem cnt_filter (f : S3 → Int × S3) (rs : List Bool) (st : List S3) : ∀ k, k ≤ st.length → cnt f rs st k = ((List.range k).filter fun i => (wells f rs st).getD i false).length
  | 0, _ => by rw [cnt_zero]; rfl
  | k + 1, hk => by
    have hx : st[k]? = some st[k] := List.getElem?_eq_getElem (by omega)
    rw [cnt_succ f rs st k _ hx, cnt_filter f rs st k (by omega), List.range_succ, List.filter_append, List.length_append]
    congr 1
    rw [List.filter_cons, List.filter_nil]
    have e : (wells f rs st).getD k false = wellI f rs k st[k] := by rw [List.getD_eq_getElem?_getD, wells_get, hx]; rfl
    rw [e]
    cases wellI f rs k st[k] <;> rfl
theorem quo_ask {f : S3 → Int × S3} {rs : List Bool} {st : List S3} (h : needN st.length ≤ askN f rs st) : Quo st.length fun i => ∃ t, st[i]? = some t ∧ wellI f rs i t = true := by
  refine ⟨(List.range st.length).filter fun i => (wells f rs st).getD i false, List.nodup_range.filter _, fun i hi => ?_, ?_⟩
  · obtain ⟨h1, h2⟩ := List.mem_filter.1 hi
    have hl := List.mem_range.1 h1
    have hx : st[i]? = some st[i] := List.getElem?_eq_getElem hl
    rw [List.getD_eq_getElem?_getD, wells_get, hx] at h2
    exact ⟨hl, st[i], hx, h2⟩
  · rw [← cnt_filter f rs st _ (Nat.le_refl _), cnt_all]; exact h
theorem well_parts {f : S3 → Int × S3} {rs : List Bool} {i : Nat} {t : S3} (h : wellI f rs i t = true) : rs.getD i false = true ∧ (f t).1 = 0 := by
  unfold wellI at h
  rw [Bool.and_eq_true] at h
  exact ⟨h.1, of_decide_eq_true h.2⟩
theorem ask_back {f : S3 → Int × S3} {rs : List Bool} {st : List S3} {i : Nat} {t' : S3} (h : (askSt f rs st)[i]? = some t') : ∃ t, st[i]? = some t ∧ (t' = t ∨ t' = (f t).2) := by
  rw [askSt_get] at h
  cases hs : st[i]? with
  | none => rw [hs] at h; cases h
  | some t =>
    rw [hs] at h
    refine ⟨t, rfl, ?_⟩
    have e : t' = turnI f rs i t := (Option.some.inj h).symm
    unfold turnI at e
    split at e
    · exact .inr e
    · exact .inl e
theorem ask_mem {f : S3 → Int × S3} {rs : List Bool} {st : List S3} {t' : S3} (h : t' ∈ askSt f rs st) : ∃ t ∈ st, t' = t ∨ t' = (f t).2 := by
  obtain ⟨i, hi⟩ := List.mem_iff_getElem?.1 h
  obtain ⟨t, ht, e⟩ := ask_back hi
  exact ⟨t, List.mem_of_getElem? ht, e⟩
theorem write_cell {room : Int} {t : S3} {ep a : Int} {b : List Int} {c : B3} (hc : c ∈ (writeR room t ep a b).2.2.1) : c = (a, ep, b) ∨ c ∈ t.2.1 := by
  rcases writeR_spec room t ep a b with ⟨_, h⟩ | ⟨_, _, _, ⟨_, h⟩ | ⟨_, h⟩⟩
  · rw [h] at hc; exact .inr hc
  · rw [h] at hc; exact .inr hc
  · rw [h] at hc; exact mem_put hc
theorem write_keeps {room : Int} {t : S3} {ep a : Int} {b : List Int} {c : B3} (hc : c ∈ t.2.1) (hne : c.1 ≠ a) : c ∈ (writeR room t ep a b).2.2.1 := by
  rcases writeR_spec room t ep a b with ⟨_, h⟩ | ⟨_, _, _, ⟨_, h⟩ | ⟨_, h⟩⟩
  · rw [h]; exact hc
  · rw [h]; exact hc
  · rw [h]
    show c ∈ putC (a, ep, b) t.2.1
    unfold putC
    exact List.mem_cons_of_mem _ (List.mem_filter.2 ⟨hc, by simpa using hne⟩)
theorem write_same {room : Int} {t : S3} {ep a : Int} {b : List Int} {c : B3} (hc : c ∈ t.2.1) : c ∈ (writeR room t ep a b).2.2.1 ∨ (a, ep, b) ∈ (writeR room t ep a b).2.2.1 := by
  rcases writeR_spec room t ep a b with ⟨_, h⟩ | ⟨_, _, _, ⟨_, h⟩ | ⟨_, h⟩⟩
  · rw [h]; exact .inl hc
  · rw [h]; exact .inl hc
  · rw [h]; exact .inr (by show _ ∈ putC (a, ep, b) t.2.1; unfold putC; exact List.mem_cons_self)
theorem write_well {room : Int} {t : S3} {ep a : Int} {b : List Int} (h0 : (writeR room t ep a b).1 = 0) : (a, ep, b) ∈ (writeR room t ep a b).2.2.1 := by
  rcases writeR_spec room t ep a b with ⟨h, _⟩ | ⟨_, _, _, ⟨hl, h⟩ | ⟨_, h⟩⟩
  · exact absurd h0 h
  · rw [h]; exact (look_mem hl).1
  · rw [h]; show _ ∈ putC (a, ep, b) t.2.1; unfold putC; exact List.mem_cons_self
theorem write_head {room : Int} {t : S3} {ep a : Int} {b : List Int} : (writeR room t ep a b).2.1 = t.1 := by
  rcases writeR_spec room t ep a b with ⟨_, h⟩ | ⟨_, _, _, ⟨_, h⟩ | ⟨_, h⟩⟩ <;> rw [h] <;> rfl
theorem write_once {room : Int} {t : S3} {ep a : Int} {b : List Int} (h0 : Once t.2.1) : Once (writeR room t ep a b).2.2.1 := by
  rcases writeR_spec room t ep a b with ⟨_, h⟩ | ⟨_, _, _, ⟨_, h⟩ | ⟨_, h⟩⟩
  · rw [h]; exact h0
  · rw [h]; exact h0
  · rw [h]; exact h0.put _
section
variable {room ep a : Int} {b : List Int} {rs : List Bool} {st : List S3}
theorem ask_cell {c : B3} {t' : S3} (h : t' ∈ askSt (fun t => writeR room t ep a b) rs st) (hc : c ∈ t'.2.1) : c = (a, ep, b) ∨ ∃ t ∈ st, c ∈ t.2.1 := by
  obtain ⟨t, ht, e | e⟩ := ask_mem h
  · rw [e] at hc; exact .inr ⟨t, ht, hc⟩
  · rw [e] at hc
    rcases write_cell hc with h | h
    · exact .inl h
    · exact .inr ⟨t, ht, h⟩
theorem ask_cls (h : Cls st) : Cls (askSt (fun t => writeR room t ep a b) rs st) := by
  intro t' h'
  obtain ⟨t, ht, e | e⟩ := ask_mem h'
  · rw [e]; exact h t ht
  · rw [e]; exact write_once (h t ht)
theorem ask_top (h : Top st ep) : Top (askSt (fun t => writeR room t ep a b) rs st) ep := by
  intro t' h'
  refine ⟨?_, fun c hc => ?_⟩
  · obtain ⟨t, ht, e | e⟩ := ask_mem h'
    · rw [e]; exact (h t ht).1
    · rw [e, write_head]; exact (h t ht).1
  · rcases ask_cell h' hc with rfl | ⟨t, ht, hc⟩
    · exact Int.le_refl _
    · exact (h t ht).2 c hc
theorem ask_chosen {a' : Int} {v : List Int} (ht : Top st ep) (h : Chosen st a' v) (hv : a' = a → v = b) : Chosen (askSt (fun t => writeR room t ep a b) rs st) a' v := by
  obtain ⟨e, hq, hval⟩ := h
  refine ⟨e, ?_, fun t' h' c hc h1 h2 => ?_⟩
  · rw [askSt_len]
    refine quo_mono hq fun i hi hh => ?_
    obtain ⟨t, hti, c, hc, h1, h2⟩ := hh
    refine ⟨turnI (fun t => writeR room t ep a b) rs i t, by rw [askSt_get, hti]; rfl, ?_⟩
    unfold turnI
    split
    · by_cases ha : c.1 = a
      · rcases write_same (room := room) (ep := ep) (a := a) (b := b) hc with h | h
        · exact ⟨c, h, h1, h2⟩
        · exact ⟨_, h, by rw [← h1]; exact ha.symm, Int.le_trans h2 ((ht t (List.mem_of_getElem? hti)).2 c hc)⟩
      · exact ⟨c, write_keeps hc ha, h1, h2⟩
    · exact ⟨c, hc, h1, h2⟩
  · rcases ask_cell h' hc with rfl | ⟨t, ht, hc⟩
    · exact (hv h1.symm).symm
    · exact hval t ht c hc h1 h2
theorem ask_makes (ht : Top st ep) (hw : ∀ t ∈ st, ∀ c ∈ t.2.1, c.1 = a → c.2.1 = ep → c.2.2 = b) (hn : needN st.length ≤ askN (fun t => writeR room t ep a b) rs st) : Chosen (askSt (fun t => writeR room t ep a b) rs st) a b := by
  refine ⟨ep, ?_, fun t' h' c hc h1 h2 => ?_⟩
  · rw [askSt_len]
    refine quo_mono (quo_ask hn) fun i hi hh => ?_
    obtain ⟨t, hti, hwl⟩ := hh
    obtain ⟨hr, h0⟩ := well_parts hwl
    exact ⟨_, by rw [askSt_get, hti]; show some (turnI _ rs i t) = _; rw [turnI_yes hr], _, write_well h0, rfl, Int.le_refl _⟩
  · rcases ask_cell h' hc with rfl | ⟨t, htm, hc⟩
    · rfl
    · exact hw t htm c hc h1 (Int.le_antisymm ((ht t htm).2 c hc) h2)
/- Seals. -/
theorem seal_cells {t : S3} : (sealR room t ep).2.2.1 = t.2.1 := by
  rcases sealR_spec room t ep with ⟨_, h⟩ | ⟨_, _, _, _, h⟩ <;> rw [h]
theorem sask_cell {c : B3} {t' : S3} (h : t' ∈ askSt (fun t => sealR room t ep) rs st) (hc : c ∈ t'.2.1) : ∃ t ∈ st, c ∈ t.2.1 := by
  obtain ⟨t, ht, e | e⟩ := ask_mem h
  · rw [e] at hc; exact ⟨t, ht, hc⟩
  · rw [e, seal_cells] at hc; exact ⟨t, ht, hc⟩
theorem sask_cls (h : Cls st) : Cls (askSt (fun t => sealR room t ep) rs st) := by
  intro t' h'
  obtain ⟨t, ht, e | e⟩ := ask_mem h'
  · rw [e]; exact h t ht
  · rw [e, seal_cells]; exact h t ht
theorem sask_top {ep0 : Int} (h : Top st ep0) (he : ep0 ≤ ep) : Top (askSt (fun t => sealR room t ep) rs st) ep := by
  intro t' h'
  refine ⟨?_, fun c hc => ?_⟩
  · obtain ⟨t, ht, e | e⟩ := ask_mem h'
    · rw [e]; exact Int.le_trans (h t ht).1 he
    · rw [e]
      rcases sealR_spec room t ep with ⟨_, h2⟩ | ⟨_, _, _, _, h2⟩
      · rw [h2]; exact Int.le_trans (h t ht).1 he
      · rw [h2]; exact Int.le_refl _
  · obtain ⟨t, ht, hc⟩ := sask_cell h' hc
    exact Int.le_trans ((h t ht).2 c hc) he
theorem sask_chosen {a' : Int} {v : List Int} (h : Chosen st a' v) : Chosen (askSt (fun t => sealR room t ep) rs st) a' v := by
  obtain ⟨e, hq, hval⟩ := h
  refine ⟨e, ?_, fun t' h' c hc h1 h2 => ?_⟩
  · rw [askSt_len]
    refine quo_mono hq fun i hi hh => ?_
    obtain ⟨t, hti, c, hc, h1, h2⟩ := hh
    refine ⟨turnI (fun t => sealR room t ep) rs i t, by rw [askSt_get, hti]; rfl, c, ?_, h1, h2⟩
    unfold turnI
    split
    · rw [seal_cells]; exact hc
    · exact hc
  · obtain ⟨t, ht, hc⟩ := sask_cell h' hc
    exact hval t ht c hc h1 h2
end
theorem best3_ge : ∀ (x : P3) (l : List P3), ∀ y ∈ x :: l, y.2.1 ≤ (best3 x l).2.1
  | x, [], y, hy => by
    rcases List.mem_cons.1 hy with rfl | hy
    · exact Int.le_refl _
    · cases hy
  | x, z :: r, y, hy => by
    show y.2.1 ≤ (best3 (if x.2.1 < z.2.1 then z else x) r).2.1
    have hz : (if x.2.1 < z.2.1 then z else x).2.1 ≤ (best3 (if x.2.1 < z.2.1 then z else x) r).2.1 := best3_ge _ r _ (by simp)
    have h1 : x.2.1 ≤ (if x.2.1 < z.2.1 then z else x).2.1 := by split <;> omega
    have h2 : z.2.1 ≤ (if x.2.1 < z.2.1 then z else x).2.1 := by split <;> omega
    rcases List.mem_cons.1 hy with rfl | hy
    · omega
    · rcases List.mem_cons.1 hy with rfl | hy
      · omega
      · exact best3_ge _ r y (List.mem_cons_of_mem _ hy)
theorem bestAt_ge {l : List P3} {a : Int} {c : P3} (h : bestAt l a = some c) : ∀ x ∈ l, x.1 = a → x.2.1 ≤ c.2.1 := by
  intro x hx ha
  unfold bestAt at h
  have hm : x ∈ grp3 l a := List.mem_filter.2 ⟨hx, by simpa using ha⟩
  cases hg : grp3 l a with
  | nil => rw [hg] at hm; cases hm
  | cons y r =>
    rw [hg] at h hm
    obtain rfl := Option.some.inj h
    exact best3_ge y r x hm
/-- A quorum that is sealed tells what was chosen. -/
theorem merge_chosen {room ep a : Int} {v : List Int} {rs : List Bool} {st : List S3} (hcls : Cls st) (h : Chosen st a v) (hn : needN st.length ≤ askN (fun t => sealR room t ep) rs st) : ∃ c ∈ mergeM (repF (fun t => sealR room t ep) rs st).flatten, c.1 = a ∧ c.2.2 = v := by
  obtain ⟨e, hq, hval⟩ := h
  obtain ⟨i, hi, ⟨t, hti, c, hc, h1, h2⟩, ⟨t2, hti2, hwl⟩⟩ := quo_meet hq (quo_ask hn)
  rw [hti] at hti2
  obtain rfl := Option.some.inj hti2
  have hrep : sortC t.2.1 ∈ repF (fun t => sealR room t ep) rs st := by
    unfold repF
    rw [List.mem_filterMap]
    refine ⟨some (sortC t.2.1), List.mem_of_getElem? (i := i) ?_, rfl⟩
    rw [List.getElem?_mapIdx, hti]
    show some (repI _ rs i t) = _
    unfold repI
    rw [if_pos hwl, seal_cells]
  have hcf : c ∈ (repF (fun t => sealR room t ep) rs st).flatten := List.mem_flatten.2 ⟨_, hrep, (mem_sortC (hcls t (List.mem_of_getElem? hti)) c).2 hc⟩
  obtain ⟨d, hd⟩ := bestAt_some ⟨c, hcf, h1⟩
  have hge := bestAt_ge hd c hcf h1
  obtain ⟨hdm, hd1⟩ := bestAt_mem hd
  obtain ⟨l, hl, hdl⟩ := List.mem_flatten.1 hdm
  obtain ⟨t3, ht3, rfl⟩ := rep_mem hl
  have hd3 : d ∈ t3.2.1 := (mem_sortC (sask_cls hcls t3 ht3) d).1 hdl
  obtain ⟨t4, ht4, hd4⟩ := sask_cell ht3 hd3
  exact ⟨d, mem_merge.2 (by rw [hd1]; exact hd), hd1, hval t4 ht4 d hd4 hd1 (Int.le_trans h2 hge)⟩
/-- What is merged is of nodes. -/
theorem merge_from {room ep : Int} {rs : List Bool} {st : List S3} (hcls : Cls st) {c : B3} (h : c ∈ mergeM (repF (fun t => sealR room t ep) rs st).flatten) : ∃ t ∈ st, c ∈ t.2.1 := by
  have h1 := (bestAt_mem (mem_merge.1 h)).1
  obtain ⟨l, hl, hcl⟩ := List.mem_flatten.1 h1
  obtain ⟨t3, ht3, rfl⟩ := rep_mem hl
  exact sask_cell ht3 ((mem_sortC (sask_cls hcls t3 ht3) c).1 hcl)
theorem rowF_get : ∀ (r a : List B3), (a ++ r).Pairwise (fun x y => x.1 < y.1) → (∀ c ∈ a ++ r, 0 ≤ c.1) → ((∀ c ∈ a, (rowF a [])[c.1.toNat]? = some c.2.2) ∧ (∀ c ∈ r, ((rowF a []).length : Int) ≤ c.1)) → ∀ c ∈ a ++ r, (rowF (a ++ r) [])[c.1.toNat]? = some c.2.2
  | [], a, _, _, h => by rw [List.append_nil]; exact h.1
  | d :: r, a, hs, h0, h => by
    have e : a ++ d :: r = (a ++ [d]) ++ r := by simp
    rw [e] at hs h0 ⊢
    have hd0 : 0 ≤ d.1 := h0 d (by simp)
    have hdl := h.2 d (by simp)
    have hlen : (padTo d.1.toNat (rowF a [])).length = d.1.toNat := by rw [padTo_len]; omega
    refine rowF_get r (a ++ [d]) hs h0 ⟨fun c hc => ?_, fun c hc => ?_⟩
    · rw [rowF_snoc]
      rcases List.mem_append.1 hc with hc | hc
      · have h1 := h.1 c hc
        have hl := (List.getElem?_eq_some_iff.1 h1).1
        rw [List.getElem?_append_left (by rw [padTo_len]; omega)]
        unfold padTo
        rw [List.getElem?_append_left hl]; exact h1
      · rw [List.mem_singleton.1 hc, List.getElem?_append_right (by omega), hlen, Nat.sub_self]; rfl
    · have hp := (List.pairwise_append.1 hs).2.2 d (by simp) c hc
      rw [rowF_snoc, List.length_append, hlen, List.length_singleton]
      omega
theorem rowF_at {l : List B3} (hs : l.Pairwise fun x y => x.1 < y.1) (h0 : ∀ c ∈ l, 0 ≤ c.1) {c : B3} (hc : c ∈ l) : (rowF l [])[c.1.toNat]? = some c.2.2 := by
  have := rowF_get l [] (by simpa using hs) (by simpa using h0) ⟨fun c hc => (by cases hc), fun c hc => (by simpa [rowF] using h0 c hc)⟩ c (by simpa using hc)
  simpa using this
theorem rowF_le (n : Nat) : ∀ (l : List B3) (acc : List (List Int)), (∀ c ∈ l, c.1 < (n : Int)) → acc.length ≤ n → l.Pairwise (fun x y => x.1 < y.1) → (∀ c ∈ l, (acc.length : Int) ≤ c.1) → (rowF l acc).length ≤ n
  | [], acc, _, h, _, _ => h
  | c :: r, acc, hc, h, hs, hl => by
    have h1 := hc c (by simp)
    have h2 := hl c (by simp)
    have hlen : (padTo c.1.toNat acc ++ [c.2.2]).length = c.1.toNat + 1 := by rw [List.length_append, padTo_len, List.length_singleton]; omega
    refine rowF_le n r _ (fun d hd => hc d (by simp [hd])) (by omega) (List.pairwise_cons.1 hs).2 fun d hd => ?_
    have := (List.pairwise_cons.1 hs).1 d hd
    rw [hlen]; omega
end Go.Proofs.YtiinelmednbpmaaGreat.Slog
