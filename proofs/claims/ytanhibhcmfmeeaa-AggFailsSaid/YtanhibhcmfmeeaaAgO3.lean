import Derived.Test.YtanhibhcmfmeeaaAgO2
import Derived.Test.YtanhibhcmfmeeaaOpen
/- Apply, whatever the table and whatever comes. -/
namespace Go.Proofs.Ytanhibhcmfmeeaa.Ag
open Go.RowKit Go.Proofs.YtanhibhcmfmeeaaW.PrintWords Go.Proofs.YtanhibhcmfmeeaaW.PrintMore Go.Proofs.Ytanhibhcmfmeeaa.Cut Go.Proofs.Ytanhibhcmfmeeaa.Fr Go.Proofs.Ytanhibhcmfmeeaa.SlK Go.Proofs.Ytanhibhcmfmeeaa.Ex
open Go.Proofs.Ytanhibhcmfmeeaa.Win (St P2 startF)
open Go.Proofs.Ytanhibhcmfmeeaa.Se (L4 S4)
/-! an expression's value is one of 64 bits -/
inductive WfE : Ex → Prop where
  | mk (op n : Int) (ks : List Ex) (h : Ex.W64 n) (hs : ∀ k ∈ ks, WfE k) : WfE (.mk op n ks)
theorem WfE.n {op n : Int} {ks : List Ex} (h : WfE (.mk op n ks)) : Ex.W64 n := by cases h with | mk _ _ _ h _ => exact h
theorem WfE.kids {op n : Int} {ks : List Ex} (h : WfE (.mk op n ks)) : ∀ k ∈ ks, WfE k := by cases h with | mk _ _ _ _ h => exact h
mutual
theorem kidsR_wf {w : World} : ∀ (l : List Ex) (A : Option Addr), KidsR w l A → ∀ k ∈ l, WfE k
  | [], _, _, k, hk => by simp at hk
  | y :: r, A, h, k, hk => by
    unfold KidsR at h
    obtain ⟨ad, h1, h2, h3⟩ := h
    rcases List.mem_cons.1 hk with e | e
    · rw [e]; exact kidR_wf y ad h2
    · exact kidsR_wf r _ h3 k e
theorem kidR_wf {w : World} : ∀ (x : Ex) (ad : Addr), KidR w x ad → WfE x
  | .mk op n ks, ad, h => by
    unfold KidR at h
    obtain ⟨h1, h2, h3, h4, h5, A, c, h6, h7⟩ := h
    exact .mk op n ks h4 (kidsR_wf ks A h7)
end
theorem exV_wf {w : World} {x : Ex} {v : Value} (h : ExV w x v) : WfE x := by
  obtain ⟨A, c, h1, h2, h3, h4, h5⟩ := h.out
  obtain ⟨op, n, ks⟩ := x
  exact .mk op n ks h3 (kidsR_wf ks A h5)
theorem w64_of {a : Int} (h : -9223372036854775808 ≤ a ∧ a ≤ 9223372036854775807) : Ex.W64 a := WalkArith.wf_i64 h
theorem w64_to {a : Int} (h : Ex.W64 a) : -9223372036854775808 ≤ a ∧ a ≤ 9223372036854775807 := Open.wf_i64 h
theorem w64_wrap (a : Int) : Ex.W64 (wrap64 a) := w64_of (by unfold wrap64; omega)
theorem tmod_bd (a b : Int) (h : -9223372036854775808 ≤ a ∧ a ≤ 9223372036854775807) : -9223372036854775808 ≤ a.tmod b ∧ a.tmod b ≤ 9223372036854775807 := by
  have h1 : (a.tmod b).natAbs ≤ a.natAbs := by rw [Int.natAbs_tmod]; exact Nat.mod_le _ _
  by_cases h0 : 0 ≤ a
  · have := Int.tmod_nonneg b h0
    omega
  · have h2 := Int.tmod_nonneg b (show 0 ≤ -a by omega)
    rw [Int.neg_tmod] at h2
    omega
theorem twoF_w64 {op a b r : Int} (ha : Ex.W64 a) (hb : Ex.W64 b) (h : twoF op a b = some r) : Ex.W64 r := by
  have h1 := w64_to ha
  have h2 := w64_to hb
  unfold twoF at h
  repeat' split at h
  all_goals first
    | (cases h; done)
    | (injection h with h; subst h; first | exact w64_wrap _ | exact w64_of (by omega) | exact w64_of (tmod_bd _ _ h1) | (apply w64_of; split <;> omega) | exact w64_of (by decide))
theorem leafF_w64 {q : Go.Proofs.Ytanhibhcmfmeeaa.Ex.Ask} {op n : Int} (hq : Ex.W64 q.key ∧ Ex.W64 q.val ∧ Ex.W64 q.time ∧ Ex.W64 q.acc) (hn : Ex.W64 n) : Ex.W64 (leafF q op n) := by
  unfold leafF
  repeat' split
  · exact hn
  · exact hq.1
  · exact hq.2.1
  · exact hq.2.2.1
  · exact hq.2.2.2
theorem valF_w64 {q : Go.Proofs.Ytanhibhcmfmeeaa.Ex.Ask} (hq : Ex.W64 q.key ∧ Ex.W64 q.val ∧ Ex.W64 q.time ∧ Ex.W64 q.acc) : ∀ (x : Ex), WfE x → ∀ r, valF q x = some r → Ex.W64 r
  | .mk op n [], h, r, e => by
    unfold valF at e
    rw [← Option.some.inj e]; exact leafF_w64 hq h.n
  | .mk op n [a], h, r, e => by
    unfold valF at e
    obtain ⟨y, _, rfl⟩ := Option.map_eq_some_iff.1 e
    exact w64_wrap _
  | .mk op n [a, b], h, r, e => by
    unfold valF at e
    obtain ⟨y, hy, e⟩ := Option.bind_eq_some_iff.1 e
    obtain ⟨z, hz, e⟩ := Option.bind_eq_some_iff.1 e
    exact twoF_w64 (valF_w64 hq a (h.kids a (by simp)) y hy) (valF_w64 hq b (h.kids b (by simp)) z hz) e
  | .mk op n [a, b, c], h, r, e => by
    unfold valF at e
    obtain ⟨y, hy, e⟩ := Option.bind_eq_some_iff.1 e
    split at e
    · exact valF_w64 hq b (h.kids b (by simp)) r e
    · exact valF_w64 hq c (h.kids c (by simp)) r e
  | .mk op n (_ :: _ :: _ :: _ :: _), h, r, e => by unfold valF at e; cases e
theorem evalF_w64 {q : Go.Proofs.Ytanhibhcmfmeeaa.Ex.Ask} (hq : Ex.W64 q.key ∧ Ex.W64 q.val ∧ Ex.W64 q.time ∧ Ex.W64 q.acc) {x : Ex} (h : WfE x) : Ex.W64 (evalF q x).1 := by
  unfold evalF
  split
  · split
    · rename_i v hv; exact valF_w64 hq x h v hv
    · exact w64_of (by decide)
  · exact w64_of (by decide)
/-- The table's values are of 64 bits. -/
def Tb.Vw : Tb → Prop
  | .kv l => ∀ p ∈ l, Ex.W64 p.2
  | .win m => ∀ p ∈ m, Ex.W64 p.2
  | .se l => ∀ p ∈ l, Ex.W64 p.val
theorem valsV_w64 : ∀ (l : List T5), Ex.W64 (valsV l) := by
  intro l
  unfold valsV
  have : ∀ (l : List T5) (a : Int), Ex.W64 a → Ex.W64 (l.foldl (fun a c => wrap64 (a + c.2.2.2.1)) a) := by
    intro l
    induction l with
    | nil => intro a h; exact h
    | cons y r ih => intro a _; exact ih _ (w64_wrap _)
  exact this l 0 (w64_of (by decide))
theorem gathT_w64 {n : Int} {t : Tb} (h : t.Vw) (key time : Int) : Ex.W64 (gathT n t key time) := by
  cases t with
  | kv l =>
    show Ex.W64 ((Kv.look l key).getD 0)
    cases hl : Kv.look l key with
    | none => exact w64_of (by decide)
    | some v =>
      unfold Kv.look at hl
      obtain ⟨p, hp, rfl⟩ := Option.map_eq_some_iff.1 hl
      exact h p (List.mem_of_find?_eq_some hp)
  | win m =>
    show Ex.W64 ((Win.look m (startF n time, key)).getD 0)
    cases hl : Win.look m (startF n time, key) with
    | none => exact w64_of (by decide)
    | some v => exact h _ (Win.look_mem hl)
  | se l => exact valsV_w64 _
theorem putT_kv (n : Int) (l : Kv.L2) (key time rn : Int) : putT n (.kv l) key time rn = if Kv.look l key = none ∧ 1024 ≤ l.length then none else some ([(key, 0, 0, rn, false)], .kv (Kv.putL key rn l)) := rfl
theorem putT_win (n : Int) (m : St) (key time rn : Int) : putT n (.win m) key time rn = if Win.look m (startF n time, key) = none ∧ 1024 ≤ m.length then none else some ([winT n (startF n time) key rn], .win (Win.put (startF n time, key) rn m)) := rfl
theorem putT_se (n : Int) (l : L4) (key time rn : Int) : putT n (.se l) key time rn = if Se.hits n key time l = [] ∧ 1024 ≤ l.length then none else some (Se.outT n key time rn l, .se (Se.putL n key time rn l)) := rfl
def applyT (n : Int) (x : Ex) (t : Tb) (key val time : Int) : (Int × Int × Int) × List T5 × Int × Tb :=
  if mayT time = false then ((0, 0, 0), [], 2, t)
  else if (evalF ⟨key, val, time, gathT n t key time⟩ x).2 ≠ 0 then ((0, 0, 0), [], (evalF ⟨key, val, time, gathT n t key time⟩ x).2, t)
  else match putT n t key time (evalF ⟨key, val, time, gathT n t key time⟩ x).1 with
    | none => ((0, 0, 0), [], 3, t)
    | some (chs, t') => ((key, (evalF ⟨key, val, time, gathT n t key time⟩ x).1, if t.kind = 6 then time else lastFrom chs), chs, 0, t')
def ApO (w0 w : World) (a : Nat) (n : Int) (x : Ex) (F : Nat → Prop) (r : (Int × Int × Int) × List T5 × Int × Tb) (e : Ending) (w' : World) : Prop :=
  ∃ sl F', e = .returned (.tuple #[recV r.1.1 r.1.2.1 r.1.2.2, sl, .int .i64 r.2.2.1]) ∧ Row5 w' w.heap.size sl r.2.1 ∧ AgO w0 w' a n x r.2.2.2 F' ∧ Mv w w' F F'
theorem gathered_o {w0 w : World} {a : Nat} {n : Int} {x : Ex} {t : Tb} {F : Nat → Prop} (h : AgO w0 w a n x t F) (key val time : Int) (hk : Ex.W64 key) (ht : mayT time = true) (W : World) (hW : Below w.heap.size w W) :
    Calls Try.prog 24 #[.pointer (some ⟨a, 0, none⟩), recV key val time] W fun e w' => e = .returned (.int .i64 (gathT n t key time)) ∧ Below W.heap.size W w' := by
  cases h with
  | kv h => exact gathered_kv h.vx h.tb key val time W hW
  | win h => exact gathered_win h.vx h.tb key val time hk W hW
  | se h => exact gathered_se h.vx h.tb key val time ht W hW
def FullP (V : World) (e : Ending) (w' : World) : Prop := ∃ u chs, e = .returned (.tuple #[u, .int .i64 3]) ∧ Row5 w' V.heap.size u chs ∧ Below V.heap.size V w'
theorem apply_full {w0 w : World} {a : Nat} {n : Int} {x : Ex} {t : Tb} {F : Nat → Prop} (h : AgO w0 w a n x t F) (key val time rn : Int) (hk : Ex.W64 key) (ht : mayT time = true) (he : evalF ⟨key, val, time, gathT n t key time⟩ x = (rn, 0))
    (hput : ∀ V, Below w.heap.size w V → Calls Try.prog 25 #[.pointer (some ⟨a, 0, none⟩), recV key val time, .int .i64 rn] V (FullP V)) :
    Calls Try.prog 12 #[.pointer (some ⟨a, 0, none⟩), recV key val time] w fun e w' => e = .returned (.tuple #[recV 0 0 0, .slice none 0 0, .int .i64 3]) ∧ Below w.heap.size w w' := by
  obtain ⟨tt, p, hv⟩ := h.vx
  refine (apply_put hv key val time _ rn ht (fun W hW => gathered_o h key val time hk ht W hW) he (fun _ => False) (fun k hk => hk.elim) (fun _ er _ _ => er = 3) (fun V hV => (hput V hV).mono ?_)).mono ?_
  · rintro e w' ⟨u, chs, rfl, hR, hB⟩
    exact ⟨u, 3, chs, fun _ => False, rfl, hR, fun e => absurd e (by decide), Mv.of_below _ hB, rfl⟩
  · rintro e w' ⟨V, w1, sl, er, chs, Ft', hV, hVs, hR5, _, rfl, hM2, rfl⟩
    rename_i hM1
    refine ⟨rfl, ?_⟩
    have hB1 := hM1.below hV hV.size (fun k e => e.elim)
    refine ⟨hM2.os.trans hB1.os, hM2.tape.trans hB1.tape, hM2.output.trans hB1.output, Nat.le_trans hB1.size hM2.size, fun k hk => ?_⟩
    exact (hM2.keep k (Nat.lt_of_lt_of_le hk hB1.size) (by omega)).trans (hB1.block k hk)
theorem apply_o {w0 w : World} {a : Nat} {n : Int} {x : Ex} {t : Tb} {F : Nat → Prop} (h : AgO w0 w a n x t F) (hw : t.Vw) (key val time : Int) (hk : Ex.W64 key) (hv : Ex.W64 val) :
    Calls Try.prog 12 #[.pointer (some ⟨a, 0, none⟩), recV key val time] w (ApO w0 w a n x F (applyT n x t key val time)) := by
  obtain ⟨tt, p, hvx⟩ := h.vx
  cases ht : mayT time with
  | false =>
    have e : applyT n x t key val time = ((0, 0, 0), [], 2, t) := by unfold applyT; rw [if_pos ht]
    rw [e]
    refine (apply_range hvx key val time ht).mono ?_
    rintro e w' ⟨rfl, hB⟩
    exact ⟨_, F, rfl, Kd.R_nil _ _ _ _ _, h.below hB, Mv.of_below _ hB⟩
  | true =>
    obtain ⟨q, hq⟩ : ∃ q, q = evalF ⟨key, val, time, gathT n t key time⟩ x := ⟨_, rfl⟩
    obtain ⟨rn, er⟩ := q
    have hrw : Ex.W64 rn := by
      have h01 : 0 ≤ time ∧ time ≤ 1099511627776 := of_decide_eq_true ht
      obtain ⟨_, _, _, kA, kc, _, hx⟩ := hvx.row
      have := evalF_w64 (q := ⟨key, val, time, gathT n t key time⟩) ⟨hk, hv, w64_of (a := time) ⟨by omega, by omega⟩, gathT_w64 hw key time⟩ (exV_wf hx)
      rw [← hq] at this
      exact this
    by_cases he : er = 0
    · subst he
      have e : applyT n x t key val time = match putT n t key time rn with
          | none => ((0, 0, 0), [], 3, t)
          | some (chs, t') => ((key, rn, if t.kind = 6 then time else lastFrom chs), chs, 0, t') := by
        unfold applyT
        rw [if_neg (by rw [ht]; decide), ← hq, if_neg (fun e => e rfl)]
      rw [e]
      cases h with
      | @kv s l v h =>
        rw [putT_kv]
        by_cases hf : Kv.look l key = none ∧ 1024 ≤ l.length
        · rw [if_pos hf]
          refine (apply_full (.kv h) key val time rn hk ht hq.symm fun V hV => (put_kv_full h.vx h.tb key val time rn hf.1 (by omega) V hV).mono ?_).mono ?_
          · rintro e w' ⟨u, rfl, hR, hB⟩
            exact ⟨u, _, rfl, hR, hB⟩
          · rintro e w' ⟨rfl, hB⟩
            exact ⟨_, _, rfl, Kd.R_nil _ _ _ _ _, .kv (h.below hB), Mv.of_below _ hB⟩
        · rw [if_neg hf]
          refine (apply_kv h key val time rn ht hq.symm (fun e => Nat.lt_of_not_le fun e2 => hf ⟨e, e2⟩)).mono ?_
          rintro e w' ⟨sl, v', rfl, hR, hK, hM⟩
          exact ⟨sl, _, rfl, hR, .kv hK, hM⟩
      | @win s b m h =>
        rw [putT_win]
        have h01 : 0 ≤ time ∧ time ≤ 1099511627776 := of_decide_eq_true ht
        by_cases hf : Win.look m (startF n time, key) = none ∧ 1024 ≤ m.length
        · rw [if_pos hf]
          refine (apply_full (.win h) key val time rn hk ht hq.symm fun V hV => (put_win_full h.vx h.tb key val time rn hk (start_facts h.tb.rng.2.2.1 h01.1 h01.2).2.1 hf.1 (by omega) V hV).mono ?_).mono ?_
          · rintro e w' ⟨u, rfl, hR, hB⟩
            exact ⟨u, _, rfl, hR, hB⟩
          · rintro e w' ⟨rfl, hB⟩
            exact ⟨_, _, rfl, Kd.R_nil _ _ _ _ _, .win (h.below hB), Mv.of_below _ hB⟩
        · rw [if_neg hf]
          refine (apply_win h key val time rn hk hrw ht hq.symm (fun e => Nat.lt_of_not_le fun e2 => hf ⟨e, e2⟩)).mono ?_
          rintro e w' ⟨sl, rfl, hR, hK, hM⟩
          exact ⟨sl, _, rfl, hR, .win hK, hM⟩
      | @se s l v h =>
        rw [putT_se]
        by_cases hf : Se.hits n key time l = [] ∧ 1024 ≤ l.length
        · rw [if_pos hf]
          refine (apply_full (.se h) key val time rn hk ht hq.symm fun V hV => (put_se_full h.vx h.tb key val time rn ht hf.1 (by omega) V hV).mono ?_).mono ?_
          · rintro e w' ⟨u, rfl, hR, hB⟩
            exact ⟨u, _, rfl, hR, hB⟩
          · rintro e w' ⟨rfl, hB⟩
            exact ⟨_, _, rfl, Kd.R_nil _ _ _ _ _, .se (h.below hB), Mv.of_below _ hB⟩
        · rw [if_neg hf]
          refine (apply_se h key val time rn ht hq.symm (fun e => Nat.lt_of_not_le fun e2 => hf ⟨e, e2⟩)).mono ?_
          rintro e w' ⟨sl, v', rfl, hR, hK, hM⟩
          refine ⟨sl, _, ?_, hR, .se hK, hM⟩
          have e8 : (if (Tb.se l).kind = 6 then time else lastFrom (Se.outT n key time rn l)) = Se.firstF n key time l := by
            rw [if_neg (show ¬ (Tb.se l).kind = 6 from (by decide : ¬ (8 : Int) = 6)), last_out]
          simp only [e8]
    · have e : applyT n x t key val time = ((0, 0, 0), [], er, t) := by
        unfold applyT
        rw [if_neg (by rw [ht]; decide), ← hq, if_pos he]
      rw [e]
      refine (apply_err hvx key val time _ ht (fun W hW => gathered_o h key val time hk ht W hW) er (by rw [← hq]) he).mono ?_
      rintro e w' ⟨rfl, hB⟩
      exact ⟨_, F, rfl, Kd.R_nil _ _ _ _ _, h.below hB, Mv.of_below _ hB⟩
end Go.Proofs.Ytanhibhcmfmeeaa.Ag
