import Derived.Test.YtiinelmednbpmaaGreatLChosen
/- Plain: opened again and again, by whomever of a quorum. -/
namespace Go.Proofs.YtiinelmednbpmaaGreat.Slog
open Go.Proofs.YtiinelmednbpmaaGreat.Slot Go.Proofs.YtiinelmednbpmaaGreat.Quor Go.Proofs.YtiinelmednbpmaaGreat.Crc
/-- The nodes while the row is written anew with the epoch ep: the slots below k are written. -/
structure OW (row : List (List Int)) (ep : Int) (k : Nat) (B : Nat) (st : List S3) : Prop where
  len : st.length = 3
  cls : Cls st
  head : ∀ t ∈ st, t.1 ≤ ep
  cell : ∀ t ∈ st, ∀ c ∈ t.2.1, (0 ≤ c.1 ∧ c.1 < row.length) ∧ c.2.1 ≤ ep ∧ ((k : Int) ≤ c.1 → c.2.1 < ep)
  ch : ∀ (a : Nat) v, row[a]? = some v → Chosen st a v
  sz : ∀ t ∈ st, t.2.2.length ≤ B
structure OS (s : LS) (B : Nat) : Prop where
  len : s.st.length = 3
  cls : Cls s.st
  head : ∀ t ∈ s.st, t.1 ≤ s.ep
  cell : ∀ t ∈ s.st, ∀ c ∈ t.2.1, (0 ≤ c.1 ∧ c.1 < s.row.length) ∧ c.2.1 ≤ s.ep
  ch : ∀ (a : Nat) v, s.row[a]? = some v → Chosen s.st a v
  sz : ∀ t ∈ s.st, t.2.2.length ≤ B
  opn : s.opn = true
  ep : 1 ≤ s.ep
  ok : ∀ b ∈ s.row, b.length ≤ 2048
theorem reach3 (f : S3 → Int × S3) (rs : List Bool) (st : List S3) (hl : st.length = 3) (hr : 2 ≤ reachN rs 3) (h : ∀ t ∈ st, (f t).1 = 0) : needN st.length ≤ askN f rs st := by
  have := askN_all f rs st (fun i t ht _ => h t (List.mem_of_getElem? ht)) st.length (Nat.le_refl _)
  rw [cnt_all, hl] at this
  rw [this, hl]; exact hr
theorem look_up {m : List B3} {k : Nat} (h : ∀ c ∈ m, c.1 < (k : Int)) : Slot.look m k = none := by
  unfold Slot.look
  rw [List.find?_eq_none]
  intro c hc
  have := h c hc
  simp; omega
theorem look_old {m : List B3} {ep : Int} {k : Nat} (h : ∀ c ∈ m, (k : Int) ≤ c.1 → c.2.1 < ep) (t : S3) (ht : t.2.1 = m) : Free t ep k := by
  unfold Free
  rw [ht]
  cases hl : Slot.look m k with
  | none => exact .inl rfl
  | some d =>
    obtain ⟨h1, h2⟩ := look_mem hl
    exact .inr ⟨d, rfl, h d h1 (by rw [h2]; exact Int.le_refl _)⟩
theorem write_size {room : Int} {t : S3} {ep a : Int} {b : List Int} : (writeR room t ep a b).2.2.2.length ≤ t.2.2.length + b.length + 14 := by
  rcases writeR_spec room t ep a b with ⟨_, h⟩ | ⟨_, hi, _, ⟨_, h⟩ | ⟨_, h⟩⟩
  · rw [h]; omega
  · rw [h]; omega
  · rw [h]
    obtain ⟨q1, q2, q3, q4, q5⟩ := hi
    have hl := wframe_len ep a b q1 q2 q5
    simp only [wrote, List.length_append]; omega
theorem ow_step {row : List (List Int)} {ep : Int} {k B : Nat} {st : List S3} (H : OW row ep k B st) (rs : List Bool) (hr : 2 ≤ reachN rs 3) (he0 : 0 ≤ ep) (he1 : ep ≤ 1048576) (hrl : row.length ≤ 4096) (b : List Int) (hb : row[k]? = some b) (hbl : b.length ≤ 2048) (hfit : (B : Int) + 2062 ≤ 1048576) :
    needN st.length ≤ askN (fun t => writeR 1048576 t ep k b) rs st ∧ OW row ep (k + 1) (B + 2062) (askSt (fun t => writeR 1048576 t ep k b) rs st) := by
  have hk := (List.getElem?_eq_some_iff.1 hb).1
  have hw : ∀ t ∈ st, (writeR 1048576 t ep k b).1 = 0 := fun t ht => by
    have hsz := H.sz t ht
    rw [writeR_ok (by unfold InW; omega) (H.head t ht) (look_old (fun c hc => (H.cell t ht c hc).2.2) t rfl) (by omega)]
  have htop : Top st ep := fun t ht => ⟨H.head t ht, fun c hc => (H.cell t ht c hc).2.1⟩
  refine ⟨reach3 _ rs st H.len hr hw, ⟨by rw [askSt_len]; exact H.len, ask_cls H.cls, fun t ht => (ask_top htop t ht).1, fun t ht c hc => ?_, fun a v hv => ?_, fun t ht => ?_⟩⟩
  · rcases ask_cell ht hc with rfl | ⟨u, hu, hc⟩
    · exact ⟨⟨by show (0 : Int) ≤ (k : Int); omega, by show (k : Int) < _; omega⟩, Int.le_refl _, fun h => by have h' : ((k + 1 : Nat) : Int) ≤ (k : Int) := h; omega⟩
    · obtain ⟨h1, h2, h3⟩ := H.cell u hu c hc
      exact ⟨h1, h2, fun h => h3 (by omega)⟩
  · refine ask_chosen htop (H.ch a v hv) fun e => ?_
    have : a = k := by omega
    rw [this, hb] at hv
    exact (Option.some.inj hv).symm
  · obtain ⟨u, hu, e | e⟩ := ask_mem ht
    · rw [e]; have := H.sz u hu; omega
    · rw [e]
      have h1 := write_size (room := 1048576) (t := u) (ep := ep) (a := k) (b := b)
      have h2 := H.sz u hu
      omega
theorem ow_all {row : List (List Int)} {ep : Int} (rs : List Bool) (hr : 2 ≤ reachN rs 3) (he0 : 0 ≤ ep) (he1 : ep ≤ 1048576) (hrl : row.length ≤ 4096) (hok : ∀ b ∈ row, b.length ≤ 2048) : ∀ (r : List (List Int)) (k B : Nat) (st : List S3), row.drop k = r → OW row ep k B st → (B : Int) + 2062 * r.length ≤ 1048576 →
    (writesF 1048576 ep rs k r st).1 = true ∧ OW row ep (k + r.length) (B + 2062 * r.length) (writesF 1048576 ep rs k r st).2 := by
  intro r
  induction r with
  | nil =>
    intro k B st _ H _
    refine ⟨rfl, ?_⟩
    simp only [List.length_nil, Nat.mul_zero, Nat.add_zero]
    exact H
  | cons b r ih =>
    intro k B st hd H hf
    have hb : row[k]? = some b := by
      have := congrArg (fun l => l[0]?) hd
      simpa using this
    have hd2 : row.drop (k + 1) = r := by
      have := congrArg (List.drop 1) hd
      rw [List.drop_drop] at this
      simpa [Nat.add_comm] using this
    simp only [List.length_cons] at hf ⊢
    obtain ⟨h1, h2⟩ := ow_step H rs hr he0 he1 hrl b hb (hok b (List.mem_of_getElem? hb)) (by omega)
    obtain ⟨B2, hB2⟩ : ∃ B2, B2 = B + 2062 := ⟨_, rfl⟩
    rw [← hB2] at h2
    have ih2 := ih (k + 1) B2 _ hd2 h2 (by omega)
    have e : writesF 1048576 ep rs k (b :: r) st = writesF 1048576 ep rs (k + 1) r (askSt (fun t => writeR 1048576 t ep k b) rs st) := by
      rw [writesF]; exact if_pos h1
    rw [e]
    refine ⟨ih2.1, ?_⟩
    have e1 : k + (r.length + 1) = k + 1 + r.length := by omega
    have e2 : B + 2062 * (r.length + 1) = B2 + 2062 * r.length := by omega
    rw [e1, e2]; exact ih2.2
theorem os_open {s : LS} {B : Nat} (H : OS s B) (rs : List Bool) (hr : 2 ≤ reachN rs 3) (he1 : s.ep + 1 ≤ 1048576) (hrl : s.row.length ≤ 4096) (hf : (B : Int) + 10 + 2062 * s.row.length ≤ 1048576) :
    ∃ s', openF 1048576 rs s = (0, s') ∧ OS s' (B + 10 + 2062 * s.row.length) ∧ s'.row = s.row ∧ s'.ep = s.ep + 1 := by
  have hep := H.ep
  have hs : ∀ t ∈ s.st, sealR 1048576 t (s.ep + 1) = (0, (s.ep + 1, t.2.1, t.2.2 ++ frameF (sealP (s.ep + 1).toNat))) := fun t ht => by
    have := H.sz t ht; have := H.head t ht
    exact sealR_ok (by omega) he1 (by omega) (by omega)
  have hq := reach3 (fun t => sealR 1048576 t (s.ep + 1)) rs s.st H.len hr (fun t ht => by show (sealR 1048576 t (s.ep + 1)).1 = 0; rw [hs t ht])
  have hsort := sorted_merge (repF (fun t => sealR 1048576 t (s.ep + 1)) rs s.st).flatten
  have hfrom : ∀ c ∈ mergeM (repF (fun t => sealR 1048576 t (s.ep + 1)) rs s.st).flatten, 0 ≤ c.1 ∧ c.1 < s.row.length := fun c hc => by
    obtain ⟨t, ht, hct⟩ := merge_from H.cls hc
    exact (H.cell t ht c hct).1
  have hrow : rowF (mergeM (repF (fun t => sealR 1048576 t (s.ep + 1)) rs s.st).flatten) [] = s.row := by
    have hat : ∀ (a : Nat) v, s.row[a]? = some v → (rowF (mergeM (repF (fun t => sealR 1048576 t (s.ep + 1)) rs s.st).flatten) [])[a]? = some v := fun a v hv => by
      obtain ⟨c, hc, h1, h2⟩ := merge_chosen H.cls (H.ch a v hv) hq
      have := rowF_at hsort (fun c hc => (hfrom c hc).1) hc
      rw [h1, h2, Int.toNat_natCast] at this
      exact this
    have hle := rowF_le s.row.length _ [] (fun c hc => (hfrom c hc).2) (Nat.zero_le _) hsort (fun c hc => by simpa using (hfrom c hc).1)
    apply List.ext_getElem?
    intro a
    cases hv : s.row[a]? with
    | some v => exact hat a v hv
    | none =>
      have := List.getElem?_eq_none_iff.1 hv
      exact List.getElem?_eq_none (by omega)
  have hW : OW s.row (s.ep + 1) 0 (B + 10) (askSt (fun t => sealR 1048576 t (s.ep + 1)) rs s.st) := by
    refine ⟨by rw [askSt_len]; exact H.len, sask_cls H.cls, fun t ht => ?_, fun t ht c hc => ?_, fun a v hv => sask_chosen (H.ch a v hv), fun t ht => ?_⟩
    · exact (sask_top (fun t ht => ⟨H.head t ht, fun c hc => (H.cell t ht c hc).2⟩) (by omega) t ht).1
    · obtain ⟨u, hu, hc⟩ := sask_cell ht hc
      have := H.cell u hu c hc
      exact ⟨this.1, by omega, fun _ => by omega⟩
    · obtain ⟨u, hu, e | e⟩ := ask_mem ht
      · rw [e]; have := H.sz u hu; omega
      · rw [e]
        have h1 := H.sz u hu
        have h2 := sframe_len (s.ep + 1)
        show (sealR 1048576 u (s.ep + 1)).2.2.2.length ≤ _
        rw [hs u hu]
        simp only [List.length_append]; omega
  obtain ⟨h1, h2⟩ := ow_all rs hr (by omega) he1 hrl H.ok s.row 0 (B + 10) _ rfl hW (by omega)
  refine ⟨⟨(writesF 1048576 (s.ep + 1) rs 0 s.row (askSt (fun t => sealR 1048576 t (s.ep + 1)) rs s.st)).2, true, s.ep + 1, s.row⟩, ?_, ?_, rfl, rfl⟩
  · unfold openF
    rw [if_pos hq, hrow, if_pos h1]
  · rw [Nat.zero_add] at h2
    exact ⟨h2.len, h2.cls, h2.head, fun t ht c hc => ⟨(h2.cell t ht c hc).1, (h2.cell t ht c hc).2.1⟩, h2.ch, h2.sz, rfl, by show 1 ≤ s.ep + 1; omega, H.ok⟩
theorem os_append {s : LS} {B : Nat} (H : OS s B) (rs : List Bool) (hr : 2 ≤ reachN rs 3) (he1 : s.ep ≤ 1048576) (hrl : s.row.length < 4096) (hf : (B : Int) + 2062 ≤ 1048576) (b : List Int) :
    OS (appendF 1048576 b rs s).2.2 (B + 2062) ∧ (appendF 1048576 b rs s).2.2.row.length ≤ s.row.length + 1 ∧ (appendF 1048576 b rs s).2.2.ep = s.ep := by
  have hep := H.ep
  by_cases hb : b.length = 0 ∨ 2048 < b.length
  · have e : appendF 1048576 b rs s = (0, 2, s) := by unfold appendF; rw [if_neg (by rw [H.opn]; decide), if_pos hb]
    rw [e]
    exact ⟨⟨H.len, H.cls, H.head, H.cell, H.ch, fun t ht => by have := H.sz t ht; omega, H.opn, H.ep, H.ok⟩, Nat.le_succ _, rfl⟩
  · have hw : ∀ t ∈ s.st, (writeR 1048576 t s.ep s.row.length b).1 = 0 := fun t ht => by
      have hsz := H.sz t ht
      rw [writeR_ok (by unfold InW; omega) (H.head t ht) (.inl (look_up fun c hc => (H.cell t ht c hc).1.2)) (by omega)]
    have hq := reach3 (fun t => writeR 1048576 t s.ep s.row.length b) rs s.st H.len hr hw
    have e : appendF 1048576 b rs s = ((s.row.length : Int), 0, ⟨askSt (fun t => writeR 1048576 t s.ep s.row.length b) rs s.st, true, s.ep, s.row ++ [b]⟩) := by
      unfold appendF
      rw [if_neg (by rw [H.opn]; decide), if_neg hb, if_neg (by omega), if_pos hq]
    have htop : Top s.st s.ep := fun t ht => ⟨H.head t ht, fun c hc => (H.cell t ht c hc).2⟩
    rw [e]
    refine ⟨⟨by simp only [askSt_len]; exact H.len, ask_cls H.cls, fun t ht => (ask_top htop t ht).1, fun t ht c hc => ?_, fun a v hv => ?_, fun t ht => ?_, rfl, H.ep, fun y hy => ?_⟩, by simp, rfl⟩
    · simp only [List.length_append, List.length_singleton]
      rcases ask_cell ht hc with rfl | ⟨u, hu, hc⟩
      · exact ⟨⟨by show (0 : Int) ≤ (s.row.length : Int); omega, by show (s.row.length : Int) < _; omega⟩, Int.le_refl _⟩
      · have := H.cell u hu c hc
        exact ⟨⟨this.1.1, by omega⟩, this.2⟩
    · simp only at hv
      by_cases ha : a < s.row.length
      · rw [List.getElem?_append_left ha] at hv
        exact ask_chosen htop (H.ch a v hv) fun e => by omega
      · have hl := (List.getElem?_eq_some_iff.1 hv).1
        simp only [List.length_append, List.length_singleton] at hl
        have : a = s.row.length := by omega
        subst this
        rw [List.getElem?_append_right (Nat.le_refl _), Nat.sub_self] at hv
        obtain rfl : b = v := by simpa using hv
        exact ask_makes htop (fun t ht c hc h1 _ => by have := (H.cell t ht c hc).1.2; omega) hq
    · obtain ⟨u, hu, e | e⟩ := ask_mem ht
      · rw [e]; have := H.sz u hu; omega
      · rw [e]
        have h1 := write_size (room := 1048576) (t := u) (ep := s.ep) (a := s.row.length) (b := b)
        have h2 := H.sz u hu
        omega
    · rcases List.mem_append.1 hy with hy | hy
      · exact H.ok y hy
      · rw [List.mem_singleton.1 hy]; omega
def oo : LS := (openF 1048576 [true, true, true] (zeros 3)).2
theorem oo1 : (openF 1048576 [true, true, true] (zeros 3)).1 = 0 := by decide +kernel
theorem oo2 : oo.st = List.replicate 3 (1, [], frameF (sealP 1)) := by decide +kernel
theorem oo3 : (oo.opn, oo.ep, oo.row) = (true, 1, []) := by decide +kernel
theorem os_zero : ∃ s, openF 1048576 [true, true, true] (zeros 3) = (0, s) ∧ OS s 10 ∧ s.row = [] ∧ s.ep = 1 := by
  have e1 : oo.opn = true := congrArg (fun p => p.1) oo3
  have e2 : oo.ep = 1 := congrArg (fun p => p.2.1) oo3
  have e3 : oo.row = [] := congrArg (fun p => p.2.2) oo3
  have hm : ∀ t ∈ oo.st, t = (1, [], frameF (sealP 1)) := fun t ht => by rw [oo2] at ht; exact (List.mem_replicate.1 ht).2
  refine ⟨oo, pair_eq oo1, ⟨by rw [oo2]; rfl, fun t ht => (by rw [hm t ht]; exact List.Pairwise.nil), fun t ht => (by rw [hm t ht, e2]; exact Int.le_refl _), fun t ht c hc => (by rw [hm t ht] at hc; cases hc), fun a v hv => (by rw [e3] at hv; simp at hv), fun t ht => ?_, e1, (by rw [e2]; exact Int.le_refl _), fun b hb => (by rw [e3] at hb; cases hb)⟩, e3, e2⟩
  rw [hm t ht]
  have := sframe_len 1
  have e : (1 : Int).toNat = 1 := rfl
  rw [e] at this
  exact this
end Go.Proofs.YtiinelmednbpmaaGreat.Slog
