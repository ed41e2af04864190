import Derived.Test.YtanhibhcmfmeeaaAgO3
/- New, whatever the kind; how a table grows. -/
namespace Go.Proofs.Ytanhibhcmfmeeaa.Ag
open Go.RowKit Go.Proofs.YtanhibhcmfmeeaaW.PrintWords Go.Proofs.YtanhibhcmfmeeaaW.PrintMore Go.Proofs.Ytanhibhcmfmeeaa.Cut Go.Proofs.Ytanhibhcmfmeeaa.Fr Go.Proofs.Ytanhibhcmfmeeaa.SlK Go.Proofs.Ytanhibhcmfmeeaa.Ex
open Go.Proofs.Ytanhibhcmfmeeaa.Win (St P2 startF)
open Go.Proofs.Ytanhibhcmfmeeaa.Se (L4 S4)
def emptyT (kind : Int) : Tb := if kind = 6 then .kv [] else if kind = 7 then .win [] else .se []
def NewO (w0 w : World) (kind n : Int) (x : Ex) (e : Ending) (w' : World) : Prop :=
  ∃ a F, e = .returned (.tuple #[.pointer (some ⟨a, 0, none⟩), .int .i64 0]) ∧ AgO w0 w' a n x (emptyT kind) F ∧ (∀ k, F k → w.heap.size ≤ k) ∧ w.heap.size ≤ a ∧ Below w.heap.size w w'
theorem kv_down {w : World} {B B' s : Nat} {room : Int} {l : Kv.L2} {v : Value} (h : Kv.Own w B s room l v) (hb : B' ≤ B) : Kv.Own w B' s room l v := ⟨h.row, Se.own_lower h.pairs hb, h.sorted, h.rng, h.fits, Nat.le_trans hb h.base⟩
theorem new_o {w0 w : World} {kind n : Int} {x : Ex} {v : Value} (h : VxV w0 kind n x v) (hb : Below w0.heap.size w0 w) (hk : kind = 6 ∨ kind = 7 ∨ kind = 8) (hn : kind ≠ 6 → 1 ≤ n ∧ n ≤ 1048576) (hm : mayE x = true) : Calls Try.prog 10 #[v] w (NewO w0 w kind n x) := by
  obtain ⟨fA0, fn0, fc0, kA0, kc0, hv0, hx0⟩ := h.out
  rcases hk with rfl | rfl | rfl
  · refine (new_kv (h.below hb) hm).mono ?_
    rintro e w' ⟨a, s, rfl, hV, hO, hsa, hle, hB, fA, fn, fc, kA, kc, hve, hr⟩
    rw [hve] at hv0
    simp only [Value.agg.injEq, Array.mk.injEq, List.cons.injEq, Value.slice.injEq, and_true, true_and] at hv0
    obtain ⟨⟨rfl, rfl, rfl⟩, rfl, rfl⟩ := hv0
    exact ⟨a, Kv.F s (.slice none 0 0), rfl, .kv ⟨⟨below_then hb hb.size hB, Nat.le_trans hb.size hle, _, _, _, _, _, hr, hx0⟩, kv_down hO hb.size⟩, fun k hk => (hO.lt k hk).1, hle, hB⟩
  · refine (new_win (h.below hb) (hn (by decide)) hm).mono ?_
    rintro e w' ⟨a, s, b, rfl, hA, hsa, hba, hle, hB, fA, fn, fc, kA, kc, hve, hr⟩
    rw [hve] at hv0
    simp only [Value.agg.injEq, Array.mk.injEq, List.cons.injEq, Value.slice.injEq, and_true, true_and] at hv0
    obtain ⟨⟨rfl, rfl, rfl⟩, rfl, rfl⟩ := hv0
    refine ⟨a, Fw s b, rfl, .win ⟨⟨below_then hb hb.size hB, Nat.le_trans hb.size hle, _, _, _, _, _, hr, hx0⟩, hA.tb, Nat.le_trans hb.size hA.bs, Nat.le_trans hb.size hA.bb⟩, fun k hk => ?_, hle, hB⟩
    rcases hk with rfl | rfl
    · exact hA.bs
    · exact hA.bb
  · refine (new_se (h.below hb) (hn (by decide)) hm).mono ?_
    rintro e w' ⟨a, s, rfl, hV, hO, hsa, hle, hB, fA, fn, fc, kA, kc, hve, hr⟩
    rw [hve] at hv0
    simp only [Value.agg.injEq, Array.mk.injEq, List.cons.injEq, Value.slice.injEq, and_true, true_and] at hv0
    obtain ⟨⟨rfl, rfl, rfl⟩, rfl, rfl⟩ := hv0
    exact ⟨a, Se.F s (.slice none 0 0), rfl, .se ⟨⟨below_then hb hb.size hB, Nat.le_trans hb.size hle, _, _, _, _, _, hr, hx0⟩, own_down hO hb.size⟩, fun k hk => (hO.lt k hk).1, hle, hB⟩
theorem empty_len (kind : Int) : (emptyT kind).len = 0 := by
  unfold emptyT
  repeat' split
  all_goals rfl
theorem empty_vw (kind : Int) : (emptyT kind).Vw := by
  unfold emptyT
  repeat' split
  all_goals (intro p hp; simp at hp)
def Tb.Sd : Tb → Prop
  | .kv l => Kv.Sorted l
  | .win m => Win.Sorted m
  | .se l => Se.Sorted l
theorem AgO.sd {w0 w : World} {a : Nat} {n : Int} {x : Ex} {t : Tb} {F : Nat → Prop} (h : AgO w0 w a n x t F) : t.Sd := by
  cases h with
  | kv h => exact h.tb.sorted
  | win h => exact h.tb.sorted
  | se h => exact h.tb.sorted
theorem putT_vw {n : Int} {t t' : Tb} {key time rn : Int} {chs : List T5} (h : t.Vw) (hs : t.Sd) (hr : Ex.W64 rn) (e : putT n t key time rn = some (chs, t')) : t'.Vw := by
  cases t with
  | kv l =>
    rw [putT_kv] at e
    split at e
    · cases e
    · obtain ⟨_, rfl⟩ := Prod.mk.inj (Option.some.inj e)
      intro p hp
      rcases (Kv.mem_put _ _ hs p).1 hp with rfl | h1
      · exact hr
      · exact h p h1.2
  | win m =>
    rw [putT_win] at e
    split at e
    · cases e
    · obtain ⟨_, rfl⟩ := Prod.mk.inj (Option.some.inj e)
      intro p hp
      rcases Win.mem_put hp with rfl | h1
      · exact hr
      · exact h p h1
  | se l =>
    rw [putT_se] at e
    split at e
    · cases e
    · obtain ⟨_, rfl⟩ := Prod.mk.inj (Option.some.inj e)
      intro p hp
      rcases (Se.mem_ins _ _ _).1 hp with rfl | h1
      · exact hr
      · exact h p (Se.mem_stay.1 h1).1
theorem putT_len {n : Int} {t t' : Tb} {key time rn : Int} {chs : List T5} (hs : t.Sd) (e : putT n t key time rn = some (chs, t')) : t'.len ≤ t.len + 1 ∧ chs.length ≤ t.len + 1 := by
  cases t with
  | kv l =>
    rw [putT_kv] at e
    split at e
    · cases e
    · obtain ⟨rfl, rfl⟩ := Prod.mk.inj (Option.some.inj e)
      have := Kv.len_put key rn hs
      exact ⟨by simp only [Tb.len]; omega, by simp⟩
  | win m =>
    rw [putT_win] at e
    split at e
    · cases e
    · obtain ⟨rfl, rfl⟩ := Prod.mk.inj (Option.some.inj e)
      have := Win.put_len (startF n time, key) rn hs
      exact ⟨by simp only [Tb.len]; split at this <;> omega, by simp⟩
  | se l =>
    rw [putT_se] at e
    split at e
    · cases e
    · obtain ⟨rfl, rfl⟩ := Prod.mk.inj (Option.some.inj e)
      have h1 := Se.stay_len n key time l
      have h2 := Se.len_ins (Se.newS n key time rn l) (Se.stay n key time l)
      have h3 : (Se.outT n key time rn l).length ≤ (Se.hits n key time l).length + 1 := by
        unfold Se.outT
        rw [List.length_append, List.length_map]
        have := List.length_filter_le (fun x : S4 => !decide (x.fr = Se.firstF n key time l ∧ x.to_ = Se.lastF n key time l)) (Se.hits n key time l)
        simp only [List.length_singleton]
        omega
      exact ⟨by simp only [Tb.len, Se.putL]; omega, by simp only [Tb.len]; omega⟩
theorem listT_len (n : Int) (t : Tb) : (listT n t).length = t.len := by
  cases t <;> simp [listT, Tb.len, Win.listT]
theorem applyT_ok {n : Int} {x : Ex} {t : Tb} {key val time : Int} (h : t.Vw) (hs : t.Sd) (hr : Ex.W64 (evalF ⟨key, val, time, gathT n t key time⟩ x).1) : (applyT n x t key val time).2.2.2.Vw ∧ (applyT n x t key val time).2.2.2.len ≤ t.len + 1 ∧ (applyT n x t key val time).2.1.length ≤ t.len + 1 := by
  unfold applyT
  split
  · exact ⟨h, Nat.le_succ _, Nat.zero_le _⟩
  · split
    · exact ⟨h, Nat.le_succ _, Nat.zero_le _⟩
    · split
      · exact ⟨h, Nat.le_succ _, Nat.zero_le _⟩
      · rename_i chs t' e
        exact ⟨putT_vw h hs hr e, putT_len hs e⟩
end Go.Proofs.Ytanhibhcmfmeeaa.Ag
