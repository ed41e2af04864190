import Derived.Test.YtiinelmednbpmaaGreatLOpensP
/- Plain: a node that loses its disk takes nothing of what all three have. -/
namespace Go.Proofs.YtiinelmednbpmaaGreat.Slog
open Go.Proofs.YtiinelmednbpmaaGreat.Slot Go.Proofs.YtiinelmednbpmaaGreat.Quor Go.Proofs.YtiinelmednbpmaaGreat.Crc
def Full (s : LS) : Prop := ∀ (a : Nat) v, s.row[a]? = some v → ∃ e, (∀ i, i < 3 → HasI s.st a e i) ∧ Val s.st a e v
section
variable {room ep a : Int} {b : List Int} {rs : List Bool} {st : List S3}
theorem ask_has {a' e : Int} {i : Nat} (ht : Top st ep) (h : HasI st a' e i) : HasI (askSt (fun t => writeR room t ep a b) rs st) a' e i := by
  obtain ⟨t, hti, c, hc, h1, h2⟩ := h
  refine ⟨turnI (fun t => writeR room t ep a b) rs i t, by rw [askSt_get, hti]; rfl, ?_⟩
  unfold turnI
  split
  · by_cases ha : c.1 = a
    · rcases write_same (room := room) (ep := ep) (a := a) (b := b) hc with h | h
      · exact ⟨c, h, h1, h2⟩
      · exact ⟨_, h, by rw [← h1]; exact ha.symm, Int.le_trans h2 ((ht t (List.mem_of_getElem? hti)).2 c hc)⟩
    · exact ⟨c, write_keeps hc ha, h1, h2⟩
  · exact ⟨c, hc, h1, h2⟩
theorem ask_val {a' e : Int} {v : List Int} (h : Val st a' e v) (hv : a' = a → v = b) : Val (askSt (fun t => writeR room t ep a b) rs st) a' e v := by
  intro t' h' c hc h1 h2
  rcases ask_cell h' hc with rfl | ⟨t, ht, hc⟩
  · exact (hv h1.symm).symm
  · exact h t ht c hc h1 h2
end
theorem full_append {s : LS} {B : Nat} (H : OS s B) (F : Full s) (he1 : s.ep ≤ 1048576) (hrl : s.row.length < 4096) (hf : (B : Int) + 2062 ≤ 1048576) (b : List Int) : Full (appendF 1048576 b [true, true, true] s).2.2 := by
  have hep := H.ep
  by_cases hb : b.length = 0 ∨ 2048 < b.length
  · have e : appendF 1048576 b [true, true, true] s = (0, 2, s) := by unfold appendF; rw [if_neg (by rw [H.opn]; decide), if_pos hb]
    rw [e]; exact F
  · have hw : ∀ t ∈ s.st, (writeR 1048576 t s.ep s.row.length b).1 = 0 := fun t ht => by
      have hsz := H.sz t ht
      rw [writeR_ok (by unfold InW; omega) (H.head t ht) (.inl (look_up fun c hc => (H.cell t ht c hc).1.2)) (by omega)]
    have hq := reach3 (fun t => writeR 1048576 t s.ep s.row.length b) [true, true, true] s.st H.len (by decide) hw
    have e : appendF 1048576 b [true, true, true] s = ((s.row.length : Int), 0, ⟨askSt (fun t => writeR 1048576 t s.ep s.row.length b) [true, true, true] s.st, true, s.ep, s.row ++ [b]⟩) := by
      unfold appendF
      rw [if_neg (by rw [H.opn]; decide), if_neg hb, if_neg (by omega), if_pos hq]
    have htop : Top s.st s.ep := fun t ht => ⟨H.head t ht, fun c hc => (H.cell t ht c hc).2⟩
    rw [e]
    intro a v hv
    simp only at hv ⊢
    by_cases ha : a < s.row.length
    · rw [List.getElem?_append_left ha] at hv
      obtain ⟨e, h1, h2⟩ := F a v hv
      exact ⟨e, fun i hi => ask_has htop (h1 i hi), ask_val h2 fun e => by omega⟩
    · have hl := (List.getElem?_eq_some_iff.1 hv).1
      simp only [List.length_append, List.length_singleton] at hl
      have : a = s.row.length := by omega
      subst this
      rw [List.getElem?_append_right (Nat.le_refl _), Nat.sub_self] at hv
      obtain rfl : b = v := by simpa using hv
      refine ⟨s.ep, fun i hi => ?_, fun t' h' c hc h1 h2 => ?_⟩
      · obtain ⟨t, ht⟩ : ∃ t, s.st[i]? = some t := ⟨_, List.getElem?_eq_getElem (by rw [H.len]; exact hi)⟩
        refine ⟨turnI (fun t => writeR 1048576 t s.ep s.row.length b) [true, true, true] i t, by rw [askSt_get, ht]; rfl, (s.row.length, s.ep, b), ?_, rfl, Int.le_refl _⟩
        have hr : [true, true, true].getD i false = true := by
          rcases (by omega : i = 0 ∨ i = 1 ∨ i = 2) with rfl | rfl | rfl <;> rfl
        unfold turnI
        rw [if_pos hr]
        exact write_well (hw t (List.mem_of_getElem? ht))
      · rcases ask_cell h' hc with rfl | ⟨t, ht, hc⟩
        · rfl
        · have := (H.cell t ht c hc).1.2; omega
theorem os_lose {s : LS} {B : Nat} (H : OS s B) (F : Full s) (k : Nat) (hk : k < 3) : OS { s with st := s.st.set k (0, [], []) } B := by
  have hm : ∀ t ∈ s.st.set k (0, [], []), t ∈ s.st ∨ t = (0, [], []) := fun t ht => List.mem_or_eq_of_mem_set ht
  refine ⟨by simp only [List.length_set]; exact H.len, fun t ht => ?_, fun t ht => ?_, fun t ht c hc => ?_, fun a v hv => ?_, fun t ht => ?_, H.opn, H.ep, H.ok⟩
  · rcases hm t ht with h | rfl
    · exact H.cls t h
    · exact List.Pairwise.nil
  · rcases hm t ht with h | rfl
    · exact H.head t h
    · have := H.ep; show (0 : Int) ≤ s.ep; omega
  · rcases hm t ht with h | rfl
    · exact H.cell t h c hc
    · cases hc
  · obtain ⟨e, h1, h2⟩ := F a v hv
    refine ⟨e, ?_, fun t ht c hc g1 g2 => ?_⟩
    · show Quo (s.st.set k (0, [], [])).length _
      rw [List.length_set, H.len]
      have hh : ∀ i, i < 3 → i ≠ k → HasI (s.st.set k (0, [], [])) a e i := fun i hi hne => by
        obtain ⟨t, ht, hc⟩ := h1 i hi
        exact ⟨t, by rw [List.getElem?_set_ne (fun h => hne h.symm)]; exact ht, hc⟩
      refine ⟨(List.range 3).filter (fun i => i ≠ k), List.nodup_range.filter _, fun i hi => ?_, ?_⟩
      · obtain ⟨q1, q2⟩ := List.mem_filter.1 hi
        have q1 := List.mem_range.1 q1
        exact ⟨q1, hh i q1 (by simpa using q2)⟩
      · rcases (by omega : k = 0 ∨ k = 1 ∨ k = 2) with rfl | rfl | rfl <;> decide
    · rcases hm t ht with h | rfl
      · exact h2 t h c hc g1 g2
      · cases hc
  · rcases hm t ht with h | rfl
    · exact H.sz t h
    · exact Nat.zero_le _
end Go.Proofs.YtiinelmednbpmaaGreat.Slog
