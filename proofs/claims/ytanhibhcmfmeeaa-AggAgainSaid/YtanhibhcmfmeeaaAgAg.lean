import Derived.Test.YtanhibhcmfmeeaaAgRu
/- What records and marks tell of a store's changes, done in another store, makes the same. -/
namespace Go.Proofs.Ytanhibhcmfmeeaa.Ag
open Go.RowKit Go.Proofs.YtanhibhcmfmeeaaW.PrintWords Go.Proofs.YtanhibhcmfmeeaaW.PrintMore Go.Proofs.Ytanhibhcmfmeeaa.Cut Go.Proofs.Ytanhibhcmfmeeaa.Fr Go.Proofs.Ytanhibhcmfmeeaa.SlK Go.Proofs.Ytanhibhcmfmeeaa.Ex
open Go.Proofs.Ytanhibhcmfmeeaa.Win (St P2 startF)
open Go.Proofs.Ytanhibhcmfmeeaa.Se (L4 S4)
/-! deeds -/
abbrev TD := Int × R3 × Int × T5
abbrev KD : Kd TD := Kd.pair (Kd.int .i64) (Kd.pair KRec (Kd.pair (Kd.int .i64) K5))
theorem at_D {w : World} {A : Option Addr} {n : Nat} {l : List TD} (h : KD.C w A n l) (i : Nat) (hi : i < n) : ∃ ad x, A = some ad ∧ l[i]? = some x ∧ w.cell? (ad.add (i * 10)) = some (.int .i64 x.1) ∧ w.cell? ⟨(ad.add (i * 10)).block, (ad.add (i * 10)).off + 1, none⟩ = some (.int .i64 x.2.1.1) ∧
    w.cell? ⟨(ad.add (i * 10)).block, (ad.add (i * 10)).off + 2, none⟩ = some (.int .i64 x.2.1.2.1) ∧ w.cell? ⟨(ad.add (i * 10)).block, (ad.add (i * 10)).off + 3, none⟩ = some (.int .i64 x.2.1.2.2) ∧ w.cell? ⟨(ad.add (i * 10)).block, (ad.add (i * 10)).off + 4, none⟩ = some (.int .i64 x.2.2.1) := by
  obtain ⟨hl, _, h⟩ := h
  obtain ⟨ad, hA, hc⟩ := h (by omega)
  have hil : i < l.length := by omega
  obtain ⟨cs, _, hk, hat⟩ := hc i (l[i]) (List.getElem?_eq_getElem hil)
  have e1 : KD.sz = 10 := rfl
  rw [e1] at hat
  obtain ⟨_, _, rfl, rfl, ⟨_, _, rfl, ⟨_, _, rfl, rfl, ⟨_, _, rfl, rfl, rfl⟩⟩, ⟨_, _, rfl, rfl, _⟩⟩⟩ := hk
  refine ⟨ad, l[i], hA, List.getElem?_eq_getElem hil, hat 0 _ rfl, ?_, ?_, ?_, ?_⟩
  · rw [← add_field _ _ 1 (by omega)]; exact hat 1 _ rfl
  · rw [← add_field _ _ 2 (by omega)]; exact hat 2 _ rfl
  · rw [← add_field _ _ 3 (by omega)]; exact hat 3 _ rfl
  · rw [← add_field _ _ 4 (by omega)]; exact hat 4 _ rfl
theorem K5_cells {w : World} {x : T5} {cs : List Value} (h : K5.K w x cs) : cs = encC x := by
  obtain ⟨_, _, rfl, rfl, ⟨_, _, rfl, rfl, ⟨_, _, rfl, rfl, ⟨_, _, rfl, rfl, rfl⟩⟩⟩⟩ := h
  rfl
theorem K5_made {w : World} {base : Nat} {ok : Nat → Prop} {x : T5} {cs : List Value} (h : K5.M w base ok x cs) : cs = encC x := by
  obtain ⟨_, _, rfl, rfl, ⟨_, _, rfl, rfl, ⟨_, _, rfl, rfl, ⟨_, _, rfl, rfl, rfl⟩⟩⟩⟩ := h
  rfl
theorem flat_of : ∀ (l : List T5) (cs : List Value), cs.length = l.length * 5 → (∀ j p, l[j]? = some p → (cs.drop (j * 5)).take 5 = encC p) → cs = l.flatMap encC
  | [], cs, h, _ => by
    have h0 : cs = [] := List.length_eq_zero_iff.1 (by simpa using h)
    rw [h0]; rfl
  | x :: r, cs, h, hc => by
    rw [List.length_cons] at h
    have h0 := hc 0 x rfl
    rw [Nat.zero_mul, List.drop_zero] at h0
    have ih := flat_of r (cs.drop 5) (by rw [List.length_drop]; omega) fun j p hj => by
      have := hc (j + 1) p (by simpa using hj)
      rw [List.drop_drop]
      rwa [show 5 + j * 5 = (j + 1) * 5 by omega]
    rw [List.flatMap_cons, ← ih, ← h0, List.take_append_drop]
theorem own_of_row5 {w : World} {base : Nat} {v : Value} {l : List T5} (h : Row5 w base v l) : w.ownsRow base 50 5 v l.length (l.flatMap encC) := by
  obtain ⟨_, inner, ho, h1, h2⟩ := h
  have e : inner = l.flatMap encC := flat_of l inner h1 fun j p hj => K5_made (h2 j p hj)
  rw [← e]; exact ho
theorem own_chg_mv {w w' : World} {base n : Nat} {v : Value} {xs : List Value} (h : w.ownsRow base 50 5 v n xs) {G G' : Nat → Prop} (hm : Mv w w' G G') (hG : ∀ k cs, w.heap[k]? = some (.cells cs 50 (0, 0)) → ¬ G k) : w'.ownsRow base 50 5 v n xs :=
  own_move h fun k hk => by
    obtain ⟨cs, hc⟩ := own_typed h k hk
    exact hm.keep k (own_lt h k hk) (hG k cs hc)
theorem AgO.farC {w0 w : World} {a : Nat} {n : Int} {x : Ex} {t : Tb} {F : Nat → Prop} (h : AgO w0 w a n x t F) (k : Nat) (cs : Array Value) (hk : w.heap[k]? = some (.cells cs 50 (0, 0))) : ¬ F k := h.far hk (by decide)
theorem sum_wf : WfE sumE := by
  refine .mk _ _ _ (by decide) fun k hk => ?_
  simp only [List.mem_cons, List.not_mem_nil, or_false] at hk
  rcases hk with rfl | rfl
  · exact .mk _ _ _ (by decide) (by simp)
  · exact .mk _ _ _ (by decide) (by simp)
theorem apply_run {n : Int} {x : Ex} {t : Tb} {key val time : Int} (hs : t.Sd) (hi : t.Iv n) (hn : t.kind ≠ 6 → 1 ≤ n) (hk : Ex.W64 key) (hr : Ex.W64 (evalF ⟨key, val, time, gathT n t key time⟩ x).1) : Run n t (applyT n x t key val time).2.1 (applyT n x t key val time).2.2.2 ∧ (applyT n x t key val time).2.2.2.Iv n := by
  unfold applyT
  split
  · exact ⟨.nil _, hi⟩
  · rename_i ht
    have ht1 : mayT time = true := by simpa using ht
    have ht : 0 ≤ time ∧ time ≤ 1099511627776 := of_decide_eq_true ht1
    split
    · exact ⟨.nil _, hi⟩
    · split
      · exact ⟨.nil _, hi⟩
      · rename_i chs t' e
        exact put_run hs hi hn ht hk hr e
theorem exp_sd {n : Int} {t : Tb} (h : t.Sd) (mark : Int) : (expT n mark t).2.Sd := by
  cases t with
  | kv l => exact h
  | win m =>
    unfold expT
    by_cases h0 : mark < 0
    · simp only [if_pos h0]; exact h
    · simp only [if_neg h0]; exact List.Pairwise.sublist (List.dropWhile_sublist _) h
  | se l => exact List.Pairwise.filter _ h
theorem empty_iv (kk n : Int) (h : 1 ≤ n) : (emptyT kk).Iv n := by
  unfold emptyT
  repeat' split
  · trivial
  · intro x hx; simp at hx
  · exact ⟨fun x hx => by simp at hx, h, by simp⟩
theorem Run.inv {n : Int} {t t' : Tb} {c : T5} {cs : List T5} (h : Run n t (c :: cs) t') : okT n c t ∧ Run n (doT c t) cs t' := by
  cases h with
  | cons a b => exact ⟨a, b⟩
theorem Run.inv0 {n : Int} {t t' : Tb} (h : Run n t [] t') : t = t' := by
  cases h with
  | nil => rfl
theorem drop_cons {L : List T5} {i : Nat} {y : T5} (h : L[i]? = some y) : L.drop i = y :: L.drop (i + 1) := by
  obtain ⟨hl, rfl⟩ := List.getElem?_eq_some_iff.1 h
  exact List.drop_eq_getElem_cons hl
theorem kindU_cases (k : Int) : kindU k = 6 ∨ kindU k = 7 ∨ kindU k = 8 := by
  unfold kindU
  split
  · exact .inl rfl
  · split
    · exact .inr (.inl rfl)
    · exact .inr (.inr rfl)
theorem AgO.aC {w0 w : World} {a : Nat} {n : Int} {x : Ex} {t : Tb} {F : Nat → Prop} (h : AgO w0 w a n x t F) {k : Nat} {cs : Array Value} (hk : w.heap[k]? = some (.cells cs 50 (0, 0))) : k ≠ a := fun e => by
  obtain ⟨tt, p, hv⟩ := h.vx
  obtain ⟨_, _, _, _, _, hr, _⟩ := hv.row
  rw [e, hr] at hk
  injection hk with hk
  injection hk with _ hk
  exact absurd hk (by decide)
/-- An append to a row of changes leaves both. -/
theorem Two.grown {w0 w w' : World} {a1 a2 base m : Nat} {n : Int} {x : Ex} {t1 t2 : Tb} {F1 F2 : Nat → Prop} {v : Value} {xs : List Value} (h : Two w0 w a1 a2 n x t1 t2 F1 F2) (ho : w.ownsRow base 50 5 v m xs) (hb : w0.heap.size ≤ base) (hg : w.grownBy w' v.ownBlock) : Two w0 w' a1 a2 n x t1 t2 F1 F2 := by
  have hm : Mv w w' (fun k => v.ownBlock = some k) (fun _ => False) := Mv.of_grown hg (fun k e => e) fun k e => e.elim
  have hG : ∀ k, v.ownBlock = some k → w0.heap.size ≤ k := fun k e => Nat.le_trans hb (own_base ho k e)
  exact ⟨h.o1.mv hm hG (fun k hk e => by obtain ⟨cs, hc⟩ := own_typed ho k e; exact h.o1.farC k cs hc hk) (fun e => by obtain ⟨cs, hc⟩ := own_typed ho _ e; exact h.o1.aC hc rfl),
    h.o2.mv hm hG (fun k hk e => by obtain ⟨cs, hc⟩ := own_typed ho k e; exact h.o2.farC k cs hc hk) (fun e => by obtain ⟨cs, hc⟩ := own_typed ho _ e; exact h.o2.aC hc rfl), h.dj, h.n1, h.n2, h.ne⟩
def AgR (w3 wx : World) (a1 a2 : Nat) (n : Int) (t1 t2 : Tb) : Prop := ∃ F1 F2, Two w3 wx a1 a2 n sumE t1 t2 F1 F2
/-- Behind the store's step: its changes, as a row. -/
def JoinR (w3 wx : World) (a1 a2 base : Nat) (n : Int) (t : Tb) (u : Value) : Prop :=
  ∃ L t', wx.ownsRow base 50 5 u L.length (L.flatMap encC) ∧ AgR w3 wx a1 a2 n t' t ∧ Run n t L t' ∧ t'.len ≤ t.len + 1 ∧ t'.Vw ∧ t'.Iv n ∧ L.length ≤ 4096
set_option maxRecDepth 100000 in
set_option maxHeartbeats 16000000 in
theorem again_walk (kd : Int) (hk0 : 0 ≤ kd ∧ kd ≤ 255) (n : Int) (hn0 : 0 ≤ n ∧ n ≤ 255) (A : Option Addr) (c : Nat) (l : List TD) (w : World)
    (hC : KD.C w A l.length l) (hW : ∀ x ∈ l, Ex.W64 x.2.1.1 ∧ Ex.W64 x.2.1.2.1 ∧ Ex.W64 x.2.1.2.2 ∧ Ex.W64 x.2.2.1) :
    Calls Try.prog 7 #[.int .u8 kd, .int .u8 n, .slice A l.length c] w fun e w' => e = .returned (.bool true) ∧ Below w.heap.size w w' := by
  have hsh := shown_calls w
  have hlm : l.length ≤ 9223372036854775807 := hC.2.1
  have HC := Lib.hid hC; have HW := Lib.hid hW
  obtain ⟨m, hm⟩ : ∃ m, m = l.length := ⟨_, rfl⟩
  rw [← hm] at HC hlm ⊢
  clear hC hW hm
  go_enter Try.func7, Try.ntmps7
  go_wp2_with fail
  refine hsh.mono ?_
  rintro e w1 ⟨rfl, hB1⟩
  have hu := usual_b kd n hk0 hn0 w1
  have HB1 := Lib.hid hB1
  clear hsh hB1
  go_wp2_with fail
  refine hu.mono ?_
  rintro e w2 ⟨q, rfl, hq, hqs, hB2⟩
  have hkc := kindU_cases kd
  obtain ⟨kk, hkk⟩ : ∃ kk, kk = kindU kd := ⟨_, rfl⟩
  rw [← hkk] at hkc ⊢
  have HK := Lib.hid (And.intro hkk hkc)
  obtain ⟨W3, hW3⟩ : ∃ W, W = w2.alloc (.cells #[.int .i64 kk, .slice none 0 0, .int .i64 6, .int .i64 0, .slice (some ⟨q, 0, none⟩) 2 2, .int .i64 (1 + n)] 33) := ⟨_, rfl⟩
  have hB3 : Below w2.heap.size w2 W3 := by rw [hW3]; exact below_alloc (Below.refl _ _) _
  have h0 : W3.heap[w2.heap.size]? = some (.cells #[.int .i64 kk, .slice none 0 0, .int .i64 6, .int .i64 0, .slice (some ⟨q, 0, none⟩) 2 2, .int .i64 (1 + n)] 33 (0, 0)) := by rw [hW3]; exact (Go.MapKept.heap_alloc w2 _).1
  have hv : VxV W3 kk (1 + n) sumE (.agg #[.int .i64 kk, .slice none 0 0, .int .i64 6, .int .i64 0, .slice (some ⟨q, 0, none⟩) 2 2, .int .i64 (1 + n)]) := ⟨none, 0, 0, some ⟨q, 0, none⟩, 2, rfl, sumV ((hB3.block q (Array.getElem?_eq_some_iff.1 hq).1).trans hq)⟩
  have hnew1 := new_o hv (Below.refl _ _) HK.out.2 (fun _ => ⟨by omega, by omega⟩) sum_may
  have HB3 := Lib.hid (below_then (below_then HB1.out HB1.out.size hB2) (below_then HB1.out HB1.out.size hB2).size hB3)
  obtain ⟨v0, v1, v2, v3, v4, v5⟩ : W3.cell? ⟨w2.heap.size, 0, none⟩ = some (.int .i64 kk) ∧ W3.cell? ⟨w2.heap.size, 1, none⟩ = some (.slice none 0 0) ∧ W3.cell? ⟨w2.heap.size, 2, none⟩ = some (.int .i64 6) ∧ W3.cell? ⟨w2.heap.size, 3, none⟩ = some (.int .i64 0) ∧ W3.cell? ⟨w2.heap.size, 4, none⟩ = some (.slice (some ⟨q, 0, none⟩) 2 2) ∧ W3.cell? ⟨w2.heap.size, 5, none⟩ = some (.int .i64 (1 + n)) := ⟨(blk_cell h0 0).trans rfl, (blk_cell h0 1).trans rfl, (blk_cell h0 2).trans rfl, (blk_cell h0 3).trans rfl, (blk_cell h0 4).trans rfl, (blk_cell h0 5).trans rfl⟩
  have HV := Lib.hid hv; have HW3 := Lib.hid hW3
  clear hu hq hqs hB2 HB1 hkk hkc hW3 hB3 h0 hv
  go_upto_region 3 with fail
  rw [← HW3.out]
  go_wp2_with fail
  refine hnew1.mono ?_
  rintro e w4 ⟨a1, F1, rfl, hA1, _, _, hB4⟩
  have hnew2 := new_o HV.out hB4 HK.out.2 (fun _ => ⟨by omega, by omega⟩) sum_may
  obtain ⟨u0, u1, u2, u3, u4, u5⟩ : w4.cell? ⟨w2.heap.size, 0, none⟩ = some (.int .i64 kk) ∧ w4.cell? ⟨w2.heap.size, 1, none⟩ = some (.slice none 0 0) ∧ w4.cell? ⟨w2.heap.size, 2, none⟩ = some (.int .i64 6) ∧ w4.cell? ⟨w2.heap.size, 3, none⟩ = some (.int .i64 0) ∧ w4.cell? ⟨w2.heap.size, 4, none⟩ = some (.slice (some ⟨q, 0, none⟩) 2 2) ∧ w4.cell? ⟨w2.heap.size, 5, none⟩ = some (.int .i64 (1 + n)) := ⟨keepB hB4 v0, keepB hB4 v1, keepB hB4 v2, keepB hB4 v3, keepB hB4 v4, keepB hB4 v5⟩
  have HA1 := Lib.hid hA1
  clear hnew1 v0 v1 v2 v3 v4 v5 hA1 hB4 HW3
  go_wp2_with fail
  refine hnew2.mono ?_
  rintro e w5 ⟨a2, F2, rfl, hA2, hF2, ha2, hB5⟩
  have HT := Lib.hid (show AgR W3 w5 a1 a2 (1 + n) (emptyT kk) (emptyT kk) from ⟨F1, F2, Two.start HA1.out hB5 hA2 hF2 ha2⟩)
  have HE := Lib.hid (And.intro (empty_len kk) (And.intro (empty_vw kk) (empty_iv kk (1 + n) (by omega))))
  clear hnew2 u0 u1 u2 u3 u4 u5 hA2 hF2 ha2 hB5 HA1
  go_wp2_with fail
  go_loopw [13] (fun u13 wr => ∃ (j : Nat) (t : Tb), j ≤ m ∧ u13 = .int .i64 j ∧ t.len ≤ j ∧ j ≤ 120 ∧ t.Vw ∧ t.Iv (1 + n) ∧ AgR W3 wr a1 a2 (1 + n) t t) (fun u13 _ => m - (intOf u13).toNat)
  case atStart => exact ⟨0, emptyT kk, Nat.zero_le _, rfl, by rw [HE.out.1]; exact Nat.le_refl _, by decide, HE.out.2.1, HE.out.2.2, HT.out⟩
  case round =>
    obtain ⟨j, t, hj, rfl, htl, hj2, hvw, hiv, hT⟩ := hrel
    clear HT HE
    by_cases hlt : j < m ∧ j < 120
    · obtain ⟨hl1, hl2⟩ := hlt
      have hli : (j : Int) < (m : Int) := by omega
      have hl2i : (j : Int) < 120 := by omega
      obtain ⟨F1, F2, h2⟩ := hT
      have hBr := below_then HB3.out HB3.out.size h2.o1.low
      obtain ⟨ad, ⟨dk, ⟨rk, rv, rt⟩, dm, dc⟩, rfl, hx, d0, d1, d2, d3, d4⟩ := at_D (Kd.C_below HC.out hBr) j hl1
      have hwx := HW.out _ (List.mem_of_getElem? hx)
      have hex := expire_o h2.o1 dm (w64_to hwx.2.2.2).2
      obtain ⟨⟨ex, t1⟩, hr⟩ : ∃ r, r = expT (1 + n) dm t := ⟨_, rfl⟩
      have hrun1 := exp_run h2.o1.sd hiv (fun _ => by omega) dm
      have hiv1 := exp_iv hiv dm
      have hlen1 := exp_len (1 + n) dm t
      have hvw1 := exp_vw (n := 1 + n) hvw dm
      rw [← hr] at hex hrun1 hiv1 hlen1 hvw1
      unfold ExO at hex
      simp only at hex hrun1 hiv1 hlen1 hvw1 d0 d1 d2 d3 d4
      have H2 := Lib.hid h2; have HX := Lib.hid (And.intro hx hwx); have H1 := Lib.hid (And.intro hrun1 (And.intro hiv1 (And.intro hlen1 hvw1)))
      have HVW := Lib.hid (And.intro hvw hiv)
      clear h2 hBr hx hwx hr hrun1 hiv1 hlen1 hvw1 hvw hiv
      go_wp2_with fail
      refine hex.mono ?_
      rintro e w5 ⟨u, F1', rfl, hR5, hO5, hM5⟩
      have hown5 := own_of_row5 hR5
      have h25 := H2.out.one hO5 hM5
      obtain ⟨A5, c5, rfl⟩ := own_slice hown5
      have hB5 := below_then HB3.out HB3.out.size h25.o1.low
      obtain ⟨ad', ⟨yk, ⟨y1, y2, y3⟩, ym, yc⟩, had, hx', e0, e1, e2, e3, e4⟩ := at_D (Kd.C_below HC.out hB5) j hl1
      obtain rfl := Option.some.inj had
      rw [HX.out.1] at hx'
      have hx' := Option.some.inj hx'
      simp only [Prod.mk.injEq] at hx'
      obtain ⟨rfl, ⟨rfl, rfl, rfl⟩, rfl, rfl⟩ := hx'
      simp only at e0 e1 e2 e3 e4
      obtain ⟨B, hBB⟩ : ∃ B, B = wr.heap.size := ⟨_, rfl⟩
      rw [← hBB] at hown5
      have hbw : W3.heap.size ≤ B := by rw [hBB]; exact H2.out.o1.low.size
      have hb5 : B ≤ w5.heap.size := by rw [hBB]; exact hM5.size
      have H5 := Lib.hid (And.intro hown5 (And.intro h25 (And.intro hbw hb5)))
      clear hex hR5 hO5 hM5 hown5 h25 hB5 d0 d1 d2 d3 d4 had hBB H2 hbw hb5 e4
      go_upto_if 69 with fail
      go_cut [14] (fun u14 wx => JoinR W3 wx a1 a2 B (1 + n) t u14)
      case first =>
        by_cases hdk : dk = 1
        · subst hdk
          go_wp2_with fail
          go_meet
          case rel =>
            have hl := H1.out.2.2.1
            exact ⟨ex, t1, H5.out.1, ⟨F1', F2, H5.out.2.1⟩, H1.out.1, by omega, H1.out.2.2.2, H1.out.2.1, by omega⟩
        · have hb : (dk == 1) = false := beq_eq_false_iff_ne.2 hdk
          obtain ⟨⟨⟨z1, z2, z3⟩, chs, er, t2⟩, hr⟩ : ∃ r, r = applyT (1 + n) sumE t1 rk rv rt := ⟨_, rfl⟩
          have hev := evalF_w64 (q := ⟨rk, rv, rt, gathT (1 + n) t1 rk rt⟩) ⟨HX.out.2.1, HX.out.2.2.1, HX.out.2.2.2.1, gathT_w64 H1.out.2.2.2 rk rt⟩ sum_wf
          have hok := applyT_ok (n := 1 + n) (x := sumE) (key := rk) (val := rv) (time := rt) H1.out.2.2.2 H5.out.2.1.o1.sd hev
          have hrn := apply_run (n := 1 + n) (x := sumE) (key := rk) (val := rv) (time := rt) H5.out.2.1.o1.sd H1.out.2.1 (fun _ => by omega) HX.out.2.1 hev
          rw [← hr] at hok hrn
          have ha := apply_o H5.out.2.1.o1 H1.out.2.2.2 rk rv rt HX.out.2.1 HX.out.2.2.1
          rw [← hr] at ha
          have ha : Calls Try.prog 12 #[.pointer (some ⟨a1, 0, none⟩), .agg #[.int .i64 rk, .int .i64 rv, .int .i64 rt]] w5 (fun e w' => ∃ sl F', e = .returned (.tuple #[.agg #[.int .i64 z1, .int .i64 z2, .int .i64 z3], sl, .int .i64 er]) ∧ Row5 w' w5.heap.size sl chs ∧ AgO W3 w' a1 (1 + n) sumE t2 F' ∧ Mv w5 w' F1' F') := ha
          have HOK := Lib.hid (And.intro hok hrn)
          clear hr hev hok hrn hdk
          go_wp2_with fail
          refine ha.mono ?_
          rintro e w6 ⟨sl, F1'', rfl, hR6, hO6, hM6⟩
          have hown6 := own_chg_mv H5.out.1 hM6 H5.out.2.1.o1.farC
          have h26 := H5.out.2.1.one hO6 hM6
          obtain ⟨W6, hW6⟩ : ∃ W, W = w6.alloc (.cells #[.int .i64 z1, .int .i64 z2, .int .i64 z3] 36) := ⟨_, rfl⟩
          have hb6 : Below w6.heap.size w6 W6 := by rw [hW6]; exact below_alloc (Below.refl _ _) _
          obtain ⟨A6, c6, rfl, hc6, hC6⟩ := Kd.R_reads (Kd.R_below hR6 hb6)
          have hown66 := Se.own_grown hown6 hb6 (Nat.le_refl _)
          have HRow := Lib.hid (show Row5 W6 B (.slice A5 ex.length c5) ex from Se.row5_of hown66)
          have hl40 : (ex.length + chs.length) * 40 ≤ 140737488355328 := by
            have h1 := H1.out.2.2.1; have h2 := HOK.out.1.2.2; omega
          have hbB : B ≤ W6.heap.size := Nat.le_trans H5.out.2.2.2 (Nat.le_trans hM6.size hb6.size)
          have HC6 := Lib.hid (show K5.C W6 A6 chs.length chs from hC6)
          have H6 := Lib.hid (And.intro hown66 (h26.below hb6)); have HW6 := Lib.hid hW6; have HbB := Lib.hid hbB
          clear ha hR6 hO6 hM6 hown6 h26 hW6 hb6 hC6 hown66 hbB e0 e1 e2 e3
          go_upto_region 13 with fail
          rw [← HW6.out]
          go_wp2_with (first
            | ((with_reducible refine gate_builtin (b := .append) (xs := #[.tmp 81, .tmp 82]) rfl ?_); at_builtin; refine Kd.R_append_rows K5 (Rr := K5.K W6) (w0 := W6) B rfl (.tmp 81) (.tmp 82) 37 50 (.agg #[.int .i64 0, .int .i64 0, .int .i64 0, .int .i64 0, .bool false]) 40 rfl Try.underlying37 Se.infoC rfl (by decide) (by decide) (.slice A5 ex.length c5) ex chs A6 chs.length c6 (fun _ => True) (fun _ => False) rfl rfl HRow.out HC6.out (fun x cs h => (K5_cells h) ▸ K5_M _ _ _ _) (fun _ hk => hk.elim) (fun _ _ => trivial) (Below.refl _ _) HbB.out hl40 ?_; intro v1 w7 hR7 hb7 hg7 hat7)
            | go_in)
          have H7 := Lib.hid (And.intro hR7 hg7)
          clear hR7 hb7 hg7 hat7 hl40
          go_wp2_with fail
          go_meet
          case rel =>
            have g1 := H1.out.2.2.1; have g2 := HOK.out.1.2.2; have g3 := HOK.out.1.2.1
            exact ⟨ex ++ chs, t2, own_of_row5 H7.out.1, ⟨F1'', F2, H6.out.2.grown H6.out.1 H5.out.2.2.1 H7.out.2⟩, H1.out.1.app HOK.out.2.1, by omega, HOK.out.1.1, HOK.out.2.2, by rw [List.length_append]; omega⟩
      case rest =>
        rename World => wx
        obtain ⟨L, t', hown, hAg, hrun, hlt', hvw', hiv', hL⟩ := hcut
        obtain ⟨AL, cL, rfl⟩ := own_slice hown
        obtain ⟨p, hp⟩ : ∃ p, p = L.length := ⟨_, rfl⟩
        rw [← hp] at hown hL ⊢
        have HP := Lib.hid hp; have HQ := Lib.hid (And.intro hlt' (And.intro hvw' hiv')); have HS := Lib.hid (And.intro hown (And.intro hAg hrun))
        clear hp hlt' hvw' hiv' hown hAg hrun e0 e1 e2 e3
        go_wp2_with fail
        go_loopw [18] (fun u18 wy => ∃ (i : Nat) (tc : Tb), i ≤ p ∧ u18 = .int .i64 i ∧ wy.ownsRow B 50 5 (.slice AL p cL) p (L.flatMap encC) ∧ AgR W3 wy a1 a2 (1 + n) t' tc ∧ Run (1 + n) tc (L.drop i) t') (fun u18 _ => p - (intOf u18).toNat)
        case atStart => exact ⟨0, t, Nat.zero_le _, rfl, HS.out.1, HS.out.2.1, HS.out.2.2⟩
        case round =>
          obtain ⟨i, tc, hi, rfl, hown, hAg, hrun⟩ := hrel
          clear HS
          by_cases hip : i < p
          · have hipi : (i : Int) < (p : Int) := by omega
            have hi0 : (0 : Int) ≤ (i : Int) := by omega
            obtain ⟨y, hy⟩ : ∃ y, L[i]? = some y := ⟨_, List.getElem?_eq_getElem (by rw [← HP.out]; exact hip)⟩
            obtain ⟨A', c', he, _, hcl⟩ := Se.row_cells5 hown HP.out
            injection he with e1 e2 e3
            subst e1 e3
            obtain ⟨g, rfl, hcell⟩ := hcl i y hy
            obtain ⟨q0, q1, q2, q3, q4⟩ := hcell wr (Below.refl _ _)
            rw [drop_cons hy] at hrun
            obtain ⟨hok, hr'⟩ := hrun.inv
            obtain ⟨G1, G2, h2⟩ := hAg
            have hd := do_o h2.o2 y hok
            unfold DoR encC at hd
            have H8 := Lib.hid (And.intro hown (And.intro h2 hr'))
            clear hown hcl hcell hrun hok hr' h2 hy e2
            go_wp2_with fail
            refine hd.mono ?_
            rintro e w8 ⟨G2', rfl, hO8, hM8⟩
            have H9 := Lib.hid (And.intro hO8 hM8)
            clear hd hO8 hM8 q0 q1 q2 q3 q4
            go_wp2_with fail
            go_roundw
            case rel => exact ⟨i + 1, doT y tc, by omega, by go_num, own_chg_mv H8.out.1 H9.out.2 H8.out.2.1.o2.farC, ⟨G1, G2', H8.out.2.1.two H9.out.1 H9.out.2⟩, H8.out.2.2⟩
            case measure => simp [intOf]; omega
          · obtain rfl : i = p := by omega
            rw [HP.out, List.drop_length] at hrun
            obtain rfl := hrun.inv0
            have H8 := Lib.hid hAg
            clear hown hAg hrun
            go_wp2_with fail
            go_roundw
            case rel => exact ⟨j + 1, tc, by omega, by go_num, by have := HQ.out.1; omega, by omega, HQ.out.2.1, HQ.out.2.2, H8.out⟩
            case measure => simp [intOf]; omega
    · obtain ⟨F1, F2, h2⟩ := hT
      have hl1 := list_o h2.o1
      have hl2 := fun V (hV : Below wr.heap.size wr V) => list_o (h2.o2.below hV)
      have hBr := below_then HB3.out HB3.out.size h2.o1.low
      have hlen : (listT (1 + n) t).length ≤ 1000000 := by rw [listT_len]; omega
      unfold ListR at hl1 hl2
      generalize listT (1 + n) t = ys at hl1 hl2 hlen
      have HL2 := Lib.hid hl2; have HB := Lib.hid hBr
      clear h2 hl2 hBr hvw hiv
      by_cases hk1 : j < m
      all_goals
        try have hk2 : (120 : Int) ≤ (j : Int) := by omega
        try have hk3 : (m : Int) ≤ (j : Int) := by omega
        try have hk4 : (j : Int) < (m : Int) := by omega
        clear hlt
        go_wp2_with fail
        refine hl1.mono ?_
        rintro e w6 ⟨u, rfl, hR6, hB6⟩
        have hl2 := HL2.out w6 hB6
        have HR6 := Lib.hid hR6; have HB6 := Lib.hid (below_then HB.out HB.out.size hB6)
        clear hl1 hR6 hB6
        go_wp2_with fail
        refine hl2.mono ?_
        rintro e w7 ⟨u', rfl, hR7, hB7⟩
        obtain ⟨A6, c6, rfl, hc6, hC6⟩ := Kd.R_reads (Kd.R_below HR6.out hB7)
        obtain ⟨A7, c7, rfl, hc7, hC7⟩ := Kd.R_reads hR7
        have hch := changes_calls hC6 hc6 hC7 hc7 hlen
        rw [decide_eq_true rfl] at hch
        have HB7 := Lib.hid (below_then HB6.out HB6.out.size hB7)
        clear hl2 hR7 hB7 hC6 hC7
        go_wp2_with ((with_reducible refine hch.mono ?_); rintro e w8 ⟨rfl, q, rfl⟩)
        go_ret
        exact ⟨rfl, pw_below_drewN HB7.out _⟩
end Go.Proofs.Ytanhibhcmfmeeaa.Ag
