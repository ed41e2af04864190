import Derived.Test.YtiinelmednbpmaaGreatLOpensP
/- Plain: what was answered OK stays, whoever is reached. -/
namespace Go.Proofs.YtiinelmednbpmaaGreat.Slog
open Go.Proofs.YtiinelmednbpmaaGreat.Slot Go.Proofs.YtiinelmednbpmaaGreat.Quor Go.Proofs.YtiinelmednbpmaaGreat.Crc
def Ours (st : List S3) (ep : Int) (R : List (List Int)) : Prop := ∀ t ∈ st, ∀ c ∈ t.2.1, c.2.1 = ep → ∃ a : Nat, c.1 = a ∧ R[a]? = some c.2.2
structure LV (R : List (List Int)) (ep : Int) (st : List S3) : Prop where
  cls : Cls st
  top : Top st ep
  ours : Ours st ep R
  pos : ∀ t ∈ st, ∀ c ∈ t.2.1, 0 ≤ c.1
  inv : ∀ t ∈ st, Inv t
structure LI (s : LS) : Prop where
  cls : Cls s.st
  top : Top s.st s.ep
  ch : ∀ (a : Nat) v, s.row[a]? = some v → Chosen s.st a v
  own : s.opn = true → Ours s.st s.ep s.row
  pos : ∀ t ∈ s.st, ∀ c ∈ t.2.1, 0 ≤ c.1
  inv : ∀ t ∈ s.st, Inv t
theorem inv_write {room : Int} {t : S3} (h : Inv t) (ep a : Int) (b : List Int) : Inv (writeR room t ep a b).2 := by
  rcases writeR_spec room t ep a b with ⟨_, e⟩ | ⟨_, hi, hle, ⟨_, e⟩ | ⟨hf, e⟩⟩
  · rw [e]; exact h
  · rw [e]; exact h
  · obtain ⟨q1, q2, q3, q4, q5⟩ := hi
    rw [e, ← note_write t ep a b q3 q4 q1 q2 q5 hle hf]
    exact h.note _ (by have := writeP_len ep.toNat a.toNat b (by omega) (by omega); omega)
theorem inv_seal {room : Int} {t : S3} (h : Inv t) (ep : Int) : Inv (sealR room t ep).2 := by
  rcases sealR_spec room t ep with ⟨_, e⟩ | ⟨_, h0, h1, h2, e⟩
  · rw [e]; exact h
  · rw [e, ← note_seal t ep h0 h1 h2]
    exact h.note _ (by have := sealP_len ep.toNat; omega)
theorem lv_step {room : Int} {R : List (List Int)} {ep : Int} {st : List S3} (H : LV R ep st) (rs : List Bool) (k : Nat) (b : List Int) (hb : R[k]? = some b) : LV R ep (askSt (fun t => writeR room t ep k b) rs st) := by
  refine ⟨ask_cls H.cls, ask_top H.top, fun t ht c hc he => ?_, fun t ht c hc => ?_, fun t ht => ?_⟩
  · rcases ask_cell ht hc with rfl | ⟨u, hu, hc⟩
    · exact ⟨k, rfl, hb⟩
    · exact H.ours u hu c hc he
  · rcases ask_cell ht hc with rfl | ⟨u, hu, hc⟩
    · show (0 : Int) ≤ (k : Int); omega
    · exact H.pos u hu c hc
  · obtain ⟨u, hu, e | e⟩ := ask_mem ht
    · rw [e]; exact H.inv u hu
    · rw [e]; exact inv_write (H.inv u hu) _ _ _
theorem lv_ch {room : Int} {R : List (List Int)} {ep : Int} {st : List S3} (H : LV R ep st) (rs : List Bool) (k : Nat) (b : List Int) (hb : R[k]? = some b) {a : Nat} {v : List Int} (hv : R[a]? = some v) (hc : Chosen st a v) : Chosen (askSt (fun t => writeR room t ep k b) rs st) a v :=
  ask_chosen H.top hc fun e => by
    have : a = k := by omega
    rw [this, hb] at hv
    exact (Option.some.inj hv).symm
theorem lv_all {room : Int} {R old : List (List Int)} {ep : Int} (rs : List Bool) (hold : ∀ (a : Nat) v, old[a]? = some v → R[a]? = some v) : ∀ (r : List (List Int)) (k : Nat) (st : List S3), R.drop k = r → LV R ep st → (∀ (a : Nat) v, old[a]? = some v → Chosen st a v) → (∀ (a : Nat) v, a < k → R[a]? = some v → Chosen st a v) →
    LV R ep (writesF room ep rs k r st).2 ∧ (∀ (a : Nat) v, old[a]? = some v → Chosen (writesF room ep rs k r st).2 a v) ∧ ((writesF room ep rs k r st).1 = true → ∀ (a : Nat) v, R[a]? = some v → Chosen (writesF room ep rs k r st).2 a v) := by
  intro r
  induction r with
  | nil =>
    intro k st hd H ho hk
    refine ⟨H, ho, fun _ a v hv => hk a v ?_ hv⟩
    have h1 := (List.getElem?_eq_some_iff.1 hv).1
    have h2 := congrArg List.length hd
    rw [List.length_drop, List.length_nil] at h2
    omega
  | cons b r ih =>
    intro k st hd H ho hk
    have hb : R[k]? = some b := by
      have := congrArg (fun l => l[0]?) hd
      simpa using this
    have hd2 : R.drop (k + 1) = r := by
      have := congrArg (List.drop 1) hd
      rw [List.drop_drop] at this
      simpa [Nat.add_comm] using this
    have H2 := lv_step (room := room) H rs k b hb
    have ho2 : ∀ (a : Nat) v, old[a]? = some v → Chosen (askSt (fun t => writeR room t ep k b) rs st) a v := fun a v hv => lv_ch H rs k b hb (hold a v hv) (ho a v hv)
    by_cases hq : needN st.length ≤ askN (fun t => writeR room t ep k b) rs st
    · have e : writesF room ep rs k (b :: r) st = writesF room ep rs (k + 1) r (askSt (fun t => writeR room t ep k b) rs st) := by rw [writesF]; exact if_pos hq
      rw [e]
      refine ih (k + 1) _ hd2 H2 ho2 fun a v ha hv => ?_
      by_cases hak : a < k
      · exact lv_ch H rs k b hb hv (hk a v hak hv)
      · obtain rfl : a = k := by omega
        rw [hb] at hv
        obtain rfl := Option.some.inj hv
        refine ask_makes H.top (fun t ht c hc h1 h2 => ?_) hq
        obtain ⟨a', e1, e2⟩ := H.ours t ht c hc h2
        have : a' = a := by omega
        rw [this, hb] at e2
        exact (Option.some.inj e2).symm
    · have e : writesF room ep rs k (b :: r) st = (false, askSt (fun t => writeR room t ep k b) rs st) := by rw [writesF]; exact if_neg hq
      rw [e]
      exact ⟨H2, ho2, fun h => by cases h⟩
theorem li_open {room : Int} {s : LS} (H : LI s) (rs : List Bool) : LI (openF room rs s).2 ∧ (openF room rs s).2.ep = s.ep + 1 ∧ (openF room rs s).2.st.length = s.st.length ∧ (((openF room rs s).1 = 0 ∧ ∀ (a : Nat) v, s.row[a]? = some v → (openF room rs s).2.row[a]? = some v) ∨ ((openF room rs s).1 = 8 ∧ (openF room rs s).2.row = s.row)) := by
  obtain ⟨S, hS⟩ : ∃ S, S = askSt (fun t => sealR room t (s.ep + 1)) rs s.st := ⟨_, rfl⟩
  have hSc : Cls S := by rw [hS]; exact sask_cls H.cls
  have hSt : Top S (s.ep + 1) := by rw [hS]; exact sask_top H.top (by omega)
  have hSp : ∀ t ∈ S, ∀ c ∈ t.2.1, 0 ≤ c.1 ∧ c.2.1 < s.ep + 1 := fun t ht c hc => by
    rw [hS] at ht
    obtain ⟨u, hu, hc⟩ := sask_cell ht hc
    have := (H.top u hu).2 c hc
    exact ⟨H.pos u hu c hc, by omega⟩
  have hSi : ∀ t ∈ S, Inv t := fun t ht => by
    rw [hS] at ht
    obtain ⟨u, hu, e | e⟩ := ask_mem ht
    · rw [e]; exact H.inv u hu
    · rw [e]; exact inv_seal (H.inv u hu) _
  have hSch : ∀ (a : Nat) v, s.row[a]? = some v → Chosen S a v := fun a v hv => by rw [hS]; exact sask_chosen (H.ch a v hv)
  have hSl : S.length = s.st.length := by rw [hS, askSt_len]
  by_cases hq : needN s.st.length ≤ askN (fun x => sealR room x (s.ep + 1)) rs s.st
  · obtain ⟨R, hR⟩ : ∃ R, R = rowF (mergeM (repF (fun t => sealR room t (s.ep + 1)) rs s.st).flatten) [] := ⟨_, rfl⟩
    have hold : ∀ (a : Nat) v, s.row[a]? = some v → R[a]? = some v := fun a v hv => by
      obtain ⟨c, hc, h1, h2⟩ := merge_chosen H.cls (H.ch a v hv) hq
      have := rowF_at (sorted_merge _) (fun c hc => by
        obtain ⟨t, ht, hct⟩ := merge_from H.cls hc
        exact H.pos t ht c hct) hc
      rw [h1, h2, Int.toNat_natCast, ← hR] at this
      exact this
    have hV : LV R (s.ep + 1) S := ⟨hSc, hSt, fun t ht c hc he => by have := (hSp t ht c hc).2; omega, fun t ht c hc => (hSp t ht c hc).1, hSi⟩
    obtain ⟨W, hc, hok⟩ := lv_all (room := room) rs hold R 0 S rfl hV hSch (fun a v ha => by omega)
    have hWl : (writesF room (s.ep + 1) rs 0 R S).2.length = S.length := writesF_len _ _ _ _ _ _
    by_cases hw : (writesF room (s.ep + 1) rs 0 R S).1 = true
    · have e : openF room rs s = (0, ⟨(writesF room (s.ep + 1) rs 0 R S).2, true, s.ep + 1, R⟩) := by
        unfold openF
        rw [if_pos hq, ← hR, ← hS, if_pos hw]
      rw [e]
      exact ⟨⟨W.cls, W.top, hok hw, fun _ => W.ours, W.pos, W.inv⟩, rfl, hWl.trans hSl, .inl ⟨rfl, hold⟩⟩
    · have e : openF room rs s = (8, ⟨(writesF room (s.ep + 1) rs 0 R S).2, false, s.ep + 1, s.row⟩) := by
        unfold openF
        rw [if_pos hq, ← hR, ← hS, if_neg hw]
      rw [e]
      exact ⟨⟨W.cls, W.top, hc, fun h => (by cases h), W.pos, W.inv⟩, rfl, hWl.trans hSl, .inr ⟨rfl, rfl⟩⟩
  · have e : openF room rs s = (8, ⟨S, false, s.ep + 1, s.row⟩) := by
      unfold openF
      rw [if_neg hq, ← hS]
    rw [e]
    exact ⟨⟨hSc, hSt, hSch, fun h => (by cases h), fun t ht c hc => (hSp t ht c hc).1, hSi⟩, rfl, hSl, .inr ⟨rfl, rfl⟩⟩
theorem li_append {room : Int} {s : LS} (H : LI s) (rs : List Bool) (b : List Int) : LI (appendF room b rs s).2.2 ∧ (appendF room b rs s).2.2.ep = s.ep ∧ (appendF room b rs s).2.2.st.length = s.st.length ∧ (((appendF room b rs s).2.1 = 0 ∧ (appendF room b rs s).1 = s.row.length ∧ (appendF room b rs s).2.2.row = s.row ++ [b]) ∨ ((appendF room b rs s).2.1 ≠ 0 ∧ (appendF room b rs s).2.2.row = s.row)) := by
  unfold appendF
  split
  · exact ⟨H, rfl, rfl, .inr ⟨by simp, rfl⟩⟩
  · rename_i hop
    have hop : s.opn = true := by simpa using hop
    split
    · exact ⟨H, rfl, rfl, .inr ⟨by simp, rfl⟩⟩
    · split
      · exact ⟨H, rfl, rfl, .inr ⟨by simp, rfl⟩⟩
      · have hpos : ∀ t ∈ askSt (fun x => writeR room x s.ep s.row.length b) rs s.st, ∀ c ∈ t.2.1, 0 ≤ c.1 := fun t ht c hc => by
          rcases ask_cell ht hc with rfl | ⟨u, hu, hc⟩
          · show (0 : Int) ≤ (s.row.length : Int); omega
          · exact H.pos u hu c hc
        have hinv : ∀ t ∈ askSt (fun x => writeR room x s.ep s.row.length b) rs s.st, Inv t := fun t ht => by
          obtain ⟨u, hu, e | e⟩ := ask_mem ht
          · rw [e]; exact H.inv u hu
          · rw [e]; exact inv_write (H.inv u hu) _ _ _
        have hold : ∀ (a : Nat) v, s.row[a]? = some v → Chosen (askSt (fun x => writeR room x s.ep s.row.length b) rs s.st) a v := fun a v hv =>
          ask_chosen H.top (H.ch a v hv) fun e => by
            have := (List.getElem?_eq_some_iff.1 hv).1
            omega
        split
        · rename_i hq
          refine ⟨⟨ask_cls H.cls, ask_top H.top, fun a v hv => ?_, fun _ t ht c hc he => ?_, hpos, hinv⟩, rfl, askSt_len _ _ _, .inl ⟨rfl, rfl, rfl⟩⟩
          · simp only at hv
            by_cases ha : a < s.row.length
            · rw [List.getElem?_append_left ha] at hv
              exact hold a v hv
            · have hl := (List.getElem?_eq_some_iff.1 hv).1
              simp only [List.length_append, List.length_singleton] at hl
              have : a = s.row.length := by omega
              subst this
              rw [List.getElem?_append_right (Nat.le_refl _), Nat.sub_self] at hv
              obtain rfl : b = v := by simpa using hv
              refine ask_makes H.top (fun t ht c hc h1 h2 => ?_) hq
              obtain ⟨a', e1, e2⟩ := H.own hop t ht c hc h2
              have := (List.getElem?_eq_some_iff.1 e2).1
              omega
          · simp only at he
            rcases ask_cell ht hc with rfl | ⟨u, hu, hc⟩
            · exact ⟨s.row.length, rfl, by simp⟩
            · obtain ⟨a', e1, e2⟩ := H.own hop u hu c hc he
              refine ⟨a', e1, ?_⟩
              show (s.row ++ [b])[a']? = _
              rw [List.getElem?_append_left (List.getElem?_eq_some_iff.1 e2).1]
              exact e2
        · exact ⟨⟨ask_cls H.cls, ask_top H.top, hold, fun h => (by cases h), hpos, hinv⟩, rfl, askSt_len _ _ _, .inr ⟨by simp, rfl⟩⟩
theorem li_zero (m : Nat) : LI (zeros m) := by
  have hm : ∀ t ∈ (zeros m).st, t = (0, [], []) := fun t ht => (List.mem_replicate.1 ht).2
  refine ⟨fun t ht => ?_, fun t ht => ?_, fun a v hv => ?_, fun h => ?_, fun t ht c hc => ?_, fun t ht => ?_⟩
  · rw [hm t ht]; exact List.Pairwise.nil
  · rw [hm t ht]; exact ⟨Int.le_refl _, fun c hc => by cases hc⟩
  · simp [zeros] at hv
  · cases h
  · rw [hm t ht] at hc; cases hc
  · rw [hm t ht]; exact Inv.new
theorem begins_row {a b : List (List Int)} (h : ∀ (i : Nat) v, a[i]? = some v → b[i]? = some v) : a.length ≤ b.length ∧ b.take a.length = a := by
  have hl : a.length ≤ b.length := by
    cases ha : a.length with
    | zero => exact Nat.zero_le _
    | succ n =>
      have h1 : a[n]? = some a[n] := List.getElem?_eq_getElem (by omega)
      have := (List.getElem?_eq_some_iff.1 (h n _ h1)).1
      omega
  refine ⟨hl, ?_⟩
  apply List.ext_getElem?
  intro i
  rw [List.getElem?_take]
  by_cases hi : i < a.length
  · rw [if_pos hi, h i _ (List.getElem?_eq_getElem hi), List.getElem?_eq_getElem hi]
  · rw [if_neg hi, List.getElem?_eq_none (by omega)]
end Go.Proofs.YtiinelmednbpmaaGreat.Slog
