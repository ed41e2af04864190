import Derived.Test.YtiinelmednbpmaaGreatLLaw
/- Plain: a quorum that stays, or none. -/
namespace Go.Proofs.YtiinelmednbpmaaGreat.Slog
open Go.Proofs.YtiinelmednbpmaaGreat.Slot Go.Proofs.YtiinelmednbpmaaGreat.Quor Go.Proofs.YtiinelmednbpmaaGreat.Crc
structure MS (rs : List Bool) (n : Nat) (s : LS) : Prop where
  len : s.st.length = n
  ep : s.ep = 1
  opn : s.opn = true
  node : ∀ (i : Nat) t, s.st[i]? = some t → rs.getD i false = true → t.1 = 1 ∧ (∀ c ∈ t.2.1, c.1 < s.row.length) ∧ t.2.2.length ≤ 20 + 2100 * s.row.length
theorem zeros_get {n i : Nat} {t : S3} (h : (zeros n).st[i]? = some t) : t = (0, [], []) := by
  have := List.mem_of_getElem? h
  exact (List.mem_replicate.1 this).2
theorem zeros_len (n : Nat) : (zeros n).st.length = n := by simp [zeros]
theorem seal_zero (i : Nat) (t : S3) (n : Nat) (h : (zeros n).st[i]? = some t) : sealR 1048576 t 1 = (0, (1, [], frameF (sealP 1))) := by
  rw [zeros_get h, sealR_ok (by omega) (by omega) (by decide) (by decide)]
  rfl
theorem rep_zero (rs : List Bool) (n : Nat) : (repF (fun t => sealR 1048576 t 1) rs (zeros n).st).flatten = [] := by
  rw [List.flatten_eq_nil_iff]
  intro l hl
  unfold repF at hl
  rw [List.mem_filterMap] at hl
  obtain ⟨o, ho, e⟩ := hl
  obtain ⟨i, hi⟩ := List.mem_iff_getElem?.1 ho
  rw [List.getElem?_mapIdx] at hi
  cases hs : (zeros n).st[i]? with
  | none => rw [hs] at hi; cases hi
  | some t =>
    rw [hs] at hi
    obtain rfl := Option.some.inj hi
    simp only [id] at e
    unfold repI at e
    by_cases hw : wellI (fun t => sealR 1048576 t 1) rs i t = true
    · rw [if_pos hw] at e
      have h2 := Option.some.inj e
      have h3 : sealR 1048576 t 1 = _ := seal_zero i t n hs
      rw [← h2]
      show sortC (sealR 1048576 t 1).2.2.1 = []
      rw [h3]; rfl
    · rw [if_neg hw] at e; cases e
theorem ask_zero (rs : List Bool) (n : Nat) : askN (fun t => sealR 1048576 t 1) rs (zeros n).st = reachN rs n := by
  have := askN_all (fun t => sealR 1048576 t 1) rs (zeros n).st (fun i t ht _ => by show (sealR 1048576 t 1).1 = 0; rw [seal_zero i t n ht]) (zeros n).st.length (Nat.le_refl _)
  rw [cnt_all] at this
  rw [this, zeros_len]
theorem minor_open (rs : List Bool) (n : Nat) (hn : n % 2 = 1) (hq : n < 2 * reachN rs n) : ∃ s, openF 1048576 rs (zeros n) = (0, s) ∧ MS rs n s ∧ s.row = [] := by
  have e1 : (zeros n).ep + 1 = 1 := rfl
  refine ⟨⟨askSt (fun t => sealR 1048576 t 1) rs (zeros n).st, true, 1, []⟩, ?_, ⟨by simp only [askSt_len, zeros_len], rfl, rfl, fun i t ht hr => ?_⟩, rfl⟩
  · unfold openF
    rw [e1, ask_zero, if_pos (by rw [zeros_len]; exact (quorum_iff n _ hn).2 hq), rep_zero]
    rfl
  · rw [askSt_get] at ht
    cases hs : (zeros n).st[i]? with
    | none => rw [hs] at ht; cases ht
    | some u =>
      rw [hs] at ht
      have : t = turnI (fun t => sealR 1048576 t 1) rs i u := (Option.some.inj ht).symm
      rw [turnI_yes hr, seal_zero i u n hs] at this
      subst this
      refine ⟨rfl, fun c hc => (by cases hc), ?_⟩
      have := sframe_len 1
      have e : (1 : Int).toNat = 1 := rfl
      rw [e] at this
      show (frameF (sealP 1)).length ≤ 20 + 2100 * 0
      omega
theorem minor_none (rs : List Bool) (n : Nat) (hn : n % 2 = 1) (hq : ¬ n < 2 * reachN rs n) : ∃ s, openF 1048576 rs (zeros n) = (8, s) ∧ s.opn = false ∧ s.row = [] ∧ s.st.length = n := by
  have e1 : (zeros n).ep + 1 = 1 := rfl
  refine ⟨⟨askSt (fun t => sealR 1048576 t 1) rs (zeros n).st, false, 1, []⟩, ?_, rfl, rfl, by simp only [askSt_len, zeros_len]⟩
  unfold openF
  rw [e1, ask_zero, if_neg (by rw [zeros_len]; exact fun h => hq ((quorum_iff n _ hn).1 h))]
  rfl
theorem look_above {m : List B3} {k : Nat} (h : ∀ c ∈ m, c.1 < (k : Int)) : Slot.look m k = none := by
  unfold Slot.look
  rw [List.find?_eq_none]
  intro c hc
  have := h c hc
  simp; omega
theorem minor_append {rs : List Bool} {n : Nat} {s : LS} (H : MS rs n s) (hn : n % 2 = 1) (hq : n < 2 * reachN rs n) (hk : s.row.length ≤ 40) (b : List Int) :
    if 0 < b.length ∧ b.length ≤ 2048 then ∃ s', appendF 1048576 b rs s = ((s.row.length : Int), 0, s') ∧ MS rs n s' ∧ s'.row = s.row ++ [b] else appendF 1048576 b rs s = (0, 2, s) := by
  by_cases hb : 0 < b.length ∧ b.length ≤ 2048
  · rw [if_pos hb]
    have hw : ∀ (i : Nat) t, s.st[i]? = some t → rs.getD i false = true → writeR 1048576 t s.ep s.row.length b = (0, wrote t s.ep s.row.length b) := fun i t ht hr => by
      obtain ⟨h1, h2, h3⟩ := H.node i t ht hr
      have he := H.ep
      exact writeR_ok (by unfold InW; omega) (by omega) (.inl (look_above h2)) (by omega)
    have hask := askN_all (fun t => writeR 1048576 t s.ep s.row.length b) rs s.st (fun i t ht hr => by show (writeR 1048576 t s.ep s.row.length b).1 = 0; rw [hw i t ht hr]) s.st.length (Nat.le_refl _)
    rw [cnt_all, H.len] at hask
    refine ⟨⟨askSt (fun t => writeR 1048576 t s.ep s.row.length b) rs s.st, true, s.ep, s.row ++ [b]⟩, ?_, ?_⟩
    · unfold appendF
      rw [if_neg (by rw [H.opn]; decide), if_neg (by omega), if_neg (by omega), if_pos (by rw [hask, H.len]; exact (quorum_iff n _ hn).2 hq)]
    · refine ⟨⟨by simp only [askSt_len]; exact H.len, H.ep, rfl, fun i t ht hr => ?_⟩, rfl⟩
      rw [askSt_get] at ht
      cases hs : s.st[i]? with
      | none => rw [hs] at ht; cases ht
      | some u =>
        rw [hs] at ht
        have e : t = turnI (fun t => writeR 1048576 t s.ep s.row.length b) rs i u := (Option.some.inj ht).symm
        rw [turnI_yes hr] at e
        rw [hw i u hs hr] at e
        subst e
        obtain ⟨h1, h2, h3⟩ := H.node i u hs hr
        have hl := wframe_len s.ep s.row.length b (by omega) (by omega) hb.2
        refine ⟨h1, fun c hc => ?_, ?_⟩
        · simp only [List.length_append, List.length_singleton]
          rcases mem_put hc with rfl | hc
          · simp only; omega
          · have := h2 c hc; omega
        · simp only [wrote, List.length_append, List.length_singleton] at hl ⊢
          omega
  · rw [if_neg hb]
    unfold appendF
    rw [if_neg (by rw [H.opn]; decide), if_pos (by omega)]
end Go.Proofs.YtiinelmednbpmaaGreat.Slog
