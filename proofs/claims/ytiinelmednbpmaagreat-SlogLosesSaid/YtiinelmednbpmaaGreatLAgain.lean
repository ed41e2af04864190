import Derived.Test.YtiinelmednbpmaaGreatMOpen
/- The walks of Crash and Lose. -/
namespace Go.Proofs.YtiinelmednbpmaaGreat.Slog
open Go.RowKit Go.Maps Go.Proofs.YtiinelmednbpmaaGreatW.PrintWords Go.Proofs.YtiinelmednbpmaaGreatW.PrintMore Go.Proofs.YtiinelmednbpmaaGreat.Row Go.Proofs.YtiinelmednbpmaaGreat.Cut Go.Proofs.YtiinelmednbpmaaGreat.DiskM Go.Proofs.YtiinelmednbpmaaGreat.Quor Go.Proofs.YtiinelmednbpmaaGreat.Slot
open Go.Proofs.YtiinelmednbpmaaGreat.Crc (KB scanF)
/-- A node is opened anew: the row of nodes is turned at its place. -/
theorem Lg.swap {w0 w w' : World} {x : LB} {room : Int} {s : LS} {n n' : NB} {t' : S3} (h : Lg w0 w x room s) {i : Nat} (hn : x.ns[i]? = some n) (N : NS w0 w' n' n'.gn n'.gp room t') (hgp : n'.gp = n.gp) (hsz : w.heap.size ≤ w'.heap.size) (hkeep0 : ∀ k, k < w.heap.size → ¬ SN n k → x.vn.ownBlock ≠ some k → w'.heap[k]? = w.heap[k]?) (hnew : ∀ k, SN n' k → SN n k ∨ w.heap.size ≤ k)
    (hndr : Row w' w0.heap.size 67 x.vn ((turnAt x.ns i n' w.heap.size w'.heap.size).map nptr)) :
    Lg w0 w' { x with ns := turnAt x.ns i n' w.heap.size w'.heap.size } room { s with st := s.st.set i t' } ∧ Stp w w' (LF x) (LF { x with ns := turnAt x.ns i n' w.heap.size w'.heap.size }) := by
  have hi := (List.getElem?_eq_some_iff.1 hn).1
  have hl := h.len
  obtain ⟨t, ht, N0⟩ := h.at_ hn
  have hmem : n ∈ x.ns := List.mem_of_getElem? hn
  obtain ⟨e2, e3⟩ := gp_parts hgp
  have hin : ∀ m, m ∈ turnAt x.ns i n' w.heap.size w'.heap.size → m = n' ∨ ∃ m0, m0 ∈ x.ns ∧ ∀ k, SN m k ↔ SN m0 k := by
    intro m hm
    obtain ⟨j, hj⟩ := List.mem_iff_getElem?.1 hm
    rw [turnAt_get] at hj
    cases hx : x.ns[j]? with
    | none => rw [hx] at hj; cases hj
    | some m0 =>
      rw [hx] at hj
      by_cases e : j = i
      · simp [e] at hj; exact .inl hj.symm
      · simp [e] at hj
        exact .inr ⟨m0, List.mem_of_getElem? hx, fun k => by rw [← hj]; exact SN.wide⟩
  have hcore : ∀ k, Core { x with ns := turnAt x.ns i n' w.heap.size w'.heap.size } k → Core x k ∨ w.heap.size ≤ k := by
    rintro k (e | e | e | ⟨m, hm, e⟩)
    · exact .inl (.inl e)
    · exact .inl (.inr (.inl e))
    · exact .inl (.inr (.inr (.inl e)))
    · rcases hin m hm with rfl | ⟨m0, hm0, hmm⟩
      · exact (hnew k e).imp (fun e => .inr (.inr (.inr ⟨n, hmem, e⟩))) id
      · exact .inl (.inr (.inr (.inr ⟨m0, hm0, (hmm k).1 e⟩)))
  have hvt : ∀ (k : Nat) (cs : Array Value) (ty : TypeId), w.heap[k]? = some (.cells cs ty (0, 0)) → ty ≠ 67 → x.vn.ownBlock ≠ some k := fun k cs ty hc ht e => by
    obtain ⟨_, _, cur, hcur⟩ := h.nd.lt k e
    exact blk_ne hc hcur ht rfl
  have hblk := hkeep0 x.lg (Array.getElem?_eq_some_iff.1 h.blk).1 (NS.ne N0 h.blk (.inl rfl)) (hvt _ _ _ h.blk (by decide))
  have hdk : ∀ k, x.vd.ownBlock = some k → w'.heap[k]? = w.heap[k]? := fun k hk => by
    obtain ⟨_, hlt, cur, hc⟩ := h.dk.lt k hk
    exact hkeep0 k hlt (NS.ne N0 hc (.inr (.inl rfl))) (hvt _ _ _ hc (by decide))
  refine ⟨⟨N.all, h.low, hblk.trans h.blk, ?_, ?_, ?_, ?_, h.rng, ?_, ?_, ?_, ?_⟩, ?_⟩
  · show Row w' w0.heap.size _ x.vd ((turnAt x.ns i n' w.heap.size w'.heap.size).map dptr)
    rw [turnAt_map dptr _ _ _ _ _ _ hn (by show Value.pointer _ = Value.pointer _; rw [e2]) (fun _ => rfl)]
    exact h.dk.move hdk
  · exact hndr
  · intro k hk e
    rcases hcore k e with e | e
    · exact h.vrn k hk e
    · have := (h.row.lt hk).2.1; omega
  · refine h.row.turn (fun k hk hlt _ => hkeep0 k hlt (fun e => ?_) (fun e => ?_)) (fun k hk hlt e => ?_)
    · rcases hk with hk | hk
      · exact hk (.inl (.inr (.inr (.inr ⟨n, hmem, e⟩))))
      · exact h.vrn k hk (.inr (.inr (.inr ⟨n, hmem, e⟩)))
    · rcases hk with hk | hk
      · exact hk (.inl (.inr (.inr (.inl e.symm))))
      · exact h.vrn k hk (.inr (.inr (.inl e.symm)))
    · rcases e with e | e
      · rcases hcore k e with e | e
        · exact hk (.inl e)
        · omega
      · exact hk (.inr e)
  · show (s.st.set i t').length = (turnAt x.ns i n' w.heap.size w'.heap.size).length
    rw [List.length_set, turnAt_len]; exact hl
  · show (turnAt x.ns i n' w.heap.size w'.heap.size).length ≤ 7
    rw [turnAt_len]; exact h.few
  · intro j m u hm hu
    simp only at hm hu
    rw [turnAt_get] at hm
    rw [List.getElem?_set] at hu
    by_cases e : i = j
    · subst e
      rw [hn] at hm
      simp only [Option.map_some, if_true] at hm
      rw [if_pos rfl, if_pos (by omega)] at hu
      obtain rfl := Option.some.inj hm
      obtain rfl := Option.some.inj hu
      exact N
    · rw [if_neg e] at hu
      obtain ⟨m0, hm0, M⟩ := h.at' hu
      rw [hm0] at hm
      have e' : ¬ j = i := fun h => e h.symm
      simp only [Option.map_some, if_neg e'] at hm
      obtain rfl := Option.some.inj hm
      refine NS.other M N.all hsz fun k hlt hh => hkeep0 k hlt (fun es => ?_) (fun es => ?_)
      · have hap := h.apart j i m0 n e' hm0 hn k es
        rcases hh with hh | hh
        · exact hap.2 hh
        · exact hh.1 hap.1
      · obtain ⟨_, _, cur, hcur⟩ := h.nd.lt k es
        rcases hh with hh | ⟨_, cs, hh⟩
        · exact NS.ne M hcur (.inr (.inr (.inl rfl))) hh
        · exact blk_ne hh hcur (by decide) rfl
  · intro j1 j2 m1 m2 hne h1 h2 k k2
    simp only at h1 h2
    rw [turnAt_get] at h1 h2
    cases hx1 : x.ns[j1]? with
    | none => rw [hx1] at h1; cases h1
    | some a1 =>
    cases hx2 : x.ns[j2]? with
    | none => rw [hx2] at h2; cases h2
    | some a2 =>
    rw [hx1] at h1
    rw [hx2] at h2
    simp only [Option.map_some] at h1 h2
    obtain ⟨u1, _, M1⟩ := h.at_ hx1
    obtain ⟨u2, _, M2⟩ := h.at_ hx2
    have hap := h.apart j1 j2 a1 a2 hne hx1 hx2
    by_cases c1 : j1 = i
    · have c2 : ¬ j2 = i := by omega
      rw [if_pos c1] at h1
      rw [if_neg c2] at h2
      obtain rfl := Option.some.inj h1
      obtain rfl := Option.some.inj h2
      have ha : a1 = n := by rw [c1, hn] at hx1; exact (Option.some.inj hx1).symm
      subst ha
      have hk2 : SN a2 k := k2
      refine ⟨by rw [e3]; exact (hap k hk2).1, fun hk => ?_⟩
      rcases hnew k hk with e | e
      · exact (hap k hk2).2 e
      · have := M2.lt hk2; omega
    · rw [if_neg c1] at h1
      obtain rfl := Option.some.inj h1
      by_cases c2 : j2 = i
      · rw [if_pos c2] at h2
        obtain rfl := Option.some.inj h2
        have ha : a2 = n := by rw [c2, hn] at hx2; exact (Option.some.inj hx2).symm
        subst ha
        rcases hnew k k2 with e | e
        · exact ⟨.inl (hap k e).1, fun hk => (hap k e).2 hk⟩
        · refine ⟨.inr ⟨e, N.lt k2⟩, fun hk => ?_⟩
          have := M1.lt (show SN a1 k from hk); omega
      · rw [if_neg c2] at h2
        obtain rfl := Option.some.inj h2
        exact ⟨.inl (hap k k2).1, fun hk => (hap k k2).2 hk⟩
  · refine ⟨hsz, fun k hlt hS => hkeep0 k hlt (fun e => hS (.inl (.inr (.inr (.inr ⟨n, hmem, e⟩))))) (fun e => hS (.inl (.inr (.inr (.inl e.symm))))), fun k e => ?_⟩
    rcases e with e | e
    · exact (hcore k e).imp .inl id
    · exact .inl (.inr e)
set_option maxHeartbeats 1000000 in
theorem lose_calls {w0 w : World} {g : Nat} {v : Value} {room : Int} {bs : List Int} {safe : Nat} (D : Dk w0 w g v room bs safe) :
    Calls Tryz.prog 35 #[.pointer (some ⟨g, 0, none⟩)] w fun e w' => e = .returned (.tuple #[]) ∧ ∃ v', Dk w0 w' g v' room [] 0 ∧ Fr w w' g v v' := by
  have HD := Lib.hid D
  clear D
  go_enter Tryz.func35, Tryz.ntmps35
  go_wp2_with fail
  refine (cut_ok HD.out 0 (Nat.zero_le _)).mono ?_
  rintro e w' ⟨rfl, v', hd, hf⟩
  go_wp2_with fail
  go_end0
  exact ⟨rfl, v', by simpa using hd, hf⟩
theorem turnAt_nptr (ns : List NB) (i : Nat) (n' : NB) (a b : Nat) (hi : i < ns.length) : (turnAt ns i n' a b).map nptr = (ns.map nptr).set i (nptr n') := by
  apply List.ext_getElem?
  intro j
  rw [List.getElem?_map, turnAt_get, List.getElem?_set, List.length_map, List.getElem?_map, Option.map_map]
  by_cases e : i = j
  · subst e
    rw [if_pos rfl, if_pos hi, List.getElem?_eq_getElem hi]
    simp
  · rw [if_neg e]
    have e' : ¬ j = i := fun h => e h.symm
    cases ns[j]? with
    | none => rfl
    | some m => simp only [Option.map_some, Function.comp, if_neg e']; rfl
def AgP (w0 w : World) (x : LB) (room : Int) (s : LS) (e : Ending) (w' : World) : Prop := ∃ x', e = .returned (.int .i64 0) ∧ x'.lg = x.lg ∧ Lg w0 w' x' room s ∧ Stp w w' (LF x) (LF x')
/-- What stands once the node is opened anew. -/
theorem again_mem {w0 w w1 : World} {x : LB} {room : Int} {s : LS} (L : Lg w0 w x room s) {i : Nat} {n : NB} (hn : x.ns[i]? = some n) {v' : Value} (f : Fr w w1 n.gd n.vd v') (t' : S3) {bn ln cn : Nat} (hv : x.vn = .slice (some ⟨bn, 0, none⟩) ln cn) {w2 : World} {n' : NB} {g : Nat} (N : NS w0 w2 n' g (n.gd, n.P) room t') (T' : Stp w1 w2 (DB n.gd v') (SN n')) :
    w2.cell? ⟨x.lg, 1, none⟩ = some x.vn ∧ w2.cell? ⟨x.lg, 0, none⟩ = some x.vd ∧ (∃ u, w2.cell? ⟨bn, i, none⟩ = some u ∧ w2.frozen? ⟨bn, i, none⟩ = false) ∧ (∀ a v, w.cell? a = some v → x.vd.ownBlock = some a.block → w2.cell? a = some v) ∧
    ∃ x', x'.lg = x.lg ∧ Lg w0 (w2.setCell ⟨bn, i, none⟩ (.pointer (some ⟨g, 0, none⟩))) x' room { s with st := s.st.set i t' } ∧ Stp w (w2.setCell ⟨bn, i, none⟩ (.pointer (some ⟨g, 0, none⟩))) (LF x) (LF x') := by
  obtain ⟨t, ht, N0⟩ := L.at_ hn
  have hi := (List.getElem?_eq_some_iff.1 hn).1
  have T : Stp w w2 (SN n) (SN n') := (NS.crash N0 f).trans T'
  have hg1 : n'.gn = g := N.1
  have hgp : n'.gp = n.gp := N.2.1
  have hlg := (T.keep x.lg (Array.getElem?_eq_some_iff.1 L.blk).1 (NS.ne N0 L.blk (.inl rfl))).trans L.blk
  have hvnb : x.vn.ownBlock = some bn := by rw [hv]; rfl
  obtain ⟨_, hbn, curb, hcb⟩ := L.nd.lt bn hvnb
  have hnb : ¬ SN n bn := NS.ne N0 hcb (.inr (.inr (.inl rfl)))
  have hb2 := (T.keep bn hbn hnb).trans hcb
  have hnd2 : Row w2 w0.heap.size 67 x.vn (x.ns.map nptr) := L.nd.move fun k hk => by
    rw [hvnb] at hk
    obtain rfl := Option.some.inj hk
    exact T.keep bn hbn hnb
  obtain ⟨g9, hA, hc9, hf9⟩ := hnd2.cellAt hv i (nptr n) (by rw [List.getElem?_map, hn]; rfl)
  obtain rfl : g9 = bn := by injection hA with hA; injection hA with hA; exact hA.symm
  have hnn' : ¬ SN n' g9 := fun e => by
    rcases T.new g9 e with e | e
    · exact hnb e
    · omega
  have hset : ∀ k, k ≠ g9 → (w2.setCell ⟨g9, i, none⟩ (.pointer (some ⟨g, 0, none⟩))).heap[k]? = w2.heap[k]? := fun k hk => set_other _ hk
  have hlow := (L.nd.lt g9 hvnb).1
  have N3 : NS w0 (w2.setCell ⟨g9, i, none⟩ (.pointer (some ⟨g, 0, none⟩))) n' n'.gn n'.gp room t' := by
    rw [hg1, show n'.gp = (n.gd, n.P) from N.2.1]
    refine NS.but N (below_set N.all hlow) (by simp) fun k hk hh => hset k fun e => ?_
    rcases hh with hh | ⟨cs, hh⟩
    · rw [e] at hh; exact hnn' hh
    · rw [e, hb2] at hh; cases hh
  have hsz : w.heap.size ≤ (w2.setCell ⟨g9, i, none⟩ (.pointer (some ⟨g, 0, none⟩))).heap.size := by simpa using T.size
  have hrow := hnd2.set hv i (by rw [List.length_map]; exact hi) (.pointer (some ⟨g, 0, none⟩))
  have hnp : nptr n' = .pointer (some ⟨g, 0, none⟩) := by show Value.pointer _ = Value.pointer _; rw [hg1]
  have hsw := L.swap (w' := w2.setCell ⟨g9, i, none⟩ (.pointer (some ⟨g, 0, none⟩))) (n' := n') (t' := t') hn N3 hgp hsz (fun k hk h1 h2 => (hset k (fun e => h2 (by rw [hvnb, e]))).trans (T.keep k hk h1)) T.new (by rw [turnAt_nptr _ _ _ _ _ hi, hnp]; exact hrow)
  refine ⟨(blk_cell hlg 1).trans rfl, (blk_cell hlg 0).trans rfl, ⟨_, hc9, hf9⟩, fun a v ha hvd => ?_, { x with ns := turnAt x.ns i n' w.heap.size (w2.setCell ⟨g9, i, none⟩ (.pointer (some ⟨g, 0, none⟩))).heap.size }, rfl, hsw.1, hsw.2⟩
  obtain ⟨_, hlt, cur, hcu⟩ := L.dk.lt a.block hvd
  exact (World.cell?_of_block (T.keep a.block hlt (NS.ne N0 hcu (.inr (.inl rfl))))).trans ha
/-- What stands once the disk has had its happening. -/
theorem again_mid {w0 w w1 : World} {x : LB} {room : Int} {s : LS} (L : Lg w0 w x room s) {i : Nat} {n : NB} (hn : x.ns[i]? = some n) {v' : Value} {bs' : List Int} {safe : Nat} (f : Fr w w1 n.gd n.vd v') (D : Dk w0 w1 n.gd v' room bs' safe) {t' : S3} (ht' : ((foldF (scanF bs').1).1, (foldF (scanF bs').1).2, bs'.take (scanF bs').2) = t') {bn bd ln cn cd : Nat} (hvd : x.vd = .slice (some ⟨bd, 0, none⟩) ln cd) (hvn : x.vn = .slice (some ⟨bn, 0, none⟩) ln cn) (hd0 : w.cell? ⟨bd, i, none⟩ = some (dptr n)) (hPB : ∀ k, n.P k → k < w.heap.size) :
    w1.cell? ⟨x.lg, 0, none⟩ = some (.slice (some ⟨bd, 0, none⟩) ln cd) ∧ w1.cell? ⟨x.lg, 1, none⟩ = some (.slice (some ⟨bn, 0, none⟩) ln cn) ∧ w1.cell? ⟨bd, i, none⟩ = some (dptr n) ∧
    Hid (∀ q, Calls Tryz.prog 27 #[.pointer (some ⟨n.gd, 0, none⟩)] (w1.drewN q) (OpenNP w0 (w1.drewN q) (n.gd, n.P) v' room t')) := by
  obtain ⟨t, ht, N0⟩ := L.at_ hn
  have T : Stp w w1 (SN n) (DB n.gd v') := NS.crash N0 f
  have hlg := (T.keep x.lg (Array.getElem?_eq_some_iff.1 L.blk).1 (NS.ne N0 L.blk (.inl rfl))).trans L.blk
  obtain ⟨_, hlt, cur, hcu⟩ := L.dk.lt bd (by rw [hvd]; rfl)
  refine ⟨((blk_cell hlg 0).trans rfl).trans (congrArg some hvd), ((blk_cell hlg 1).trans rfl).trans (congrArg some hvn), (World.cell?_of_block (T.keep bd hlt (NS.ne N0 hcu (.inr (.inl rfl))))).trans hd0, Lib.hid fun q => ?_⟩
  exact open_ns (gd := (n.gd, n.P)) (D.step (pw_below_drewN (Below.refl _ _) q)) (fun k hk => Nat.lt_of_lt_of_le (hPB k hk) (by simpa using T.size)) ht'
set_option maxRecDepth 1000000 in
set_option maxHeartbeats 8000000 in
theorem again_calls {w0 w : World} {x : LB} {room : Int} {s : LS} (L : Lg w0 w x room s) {i : Nat} {n : NB} (hn : x.ns[i]? = some n) (fn : Nat) (caps : List Value) (hfn : fn = 36 ∨ fn = 34) (bs' : List Int) (t' : S3) (ht' : ((foldF (scanF bs').1).1, (foldF (scanF bs').1).2, bs'.take (scanF bs').2) = t')
    (hcl : Calls Tryz.prog fn (dptr n :: caps).toArray w fun e w1 => e = .returned (.tuple #[]) ∧ ∃ v' safe, Dk w0 w1 n.gd v' room bs' safe ∧ Fr w w1 n.gd n.vd v') :
    Calls Tryz.prog 33 #[.pointer (some ⟨x.lg, 0, none⟩), .int .i64 i, .func (.func fn) #[] caps.toArray] w (AgP w0 w x room { s with st := s.st.set i t' }) := by
  obtain ⟨t, ht, N0⟩ := L.at_ hn
  have hi := (List.getElem?_eq_some_iff.1 hn).1
  have hfew := L.few
  obtain ⟨Ad, cd, hvd, _, _⟩ := L.dk.slice
  obtain ⟨An, cn, hvn, _, _⟩ := L.nd.slice
  rw [List.length_map] at hvd hvn
  obtain ⟨gd, rfl, hd0, _⟩ := L.dk.cellAt hvd i (dptr n) (by rw [List.getElem?_map, hn]; rfl)
  obtain ⟨bn, rfl, _, _⟩ := L.nd.cellAt hvn i (nptr n) (by rw [List.getElem?_map, hn]; rfl)
  have c0 := L.cells.1
  have c1 := L.cells.2.1
  rw [hvd] at c0
  rw [hvn] at c1
  have hPB : ∀ k, n.P k → k < w.heap.size := by obtain ⟨_, _, m4, M4, _⟩ := N0; exact M4.pb
  have HL := Lib.hid (And.intro L (And.intro hn (And.intro hvd (And.intro hvn hPB))))
  obtain ⟨ln, hln⟩ : ∃ ln, ln = x.ns.length := ⟨_, rfl⟩
  rw [← hln] at hi hfew c0 c1
  have HLN := Lib.hid hln
  have hii : (i : Int) < (ln : Int) := by omega
  have hi0 : (0 : Int) ≤ (i : Int) := by omega
  clear L hn ht N0 hvd hvn hPB hln
  have HD0 := Lib.hid hd0
  rcases hfn with rfl | rfl
  all_goals
    go_enter Tryz.func33, Tryz.ntmps33
    go_wp2_with fail
    refine hcl.mono ?_
    rintro e w1 ⟨rfl, v', safe, D, f⟩
    obtain ⟨k0, k1, k2, HOP⟩ := again_mid HL.out.1 HL.out.2.1 f D ht' (by rw [HL.out.2.2.1, ← HLN.out]) (by rw [HL.out.2.2.2.1, ← HLN.out]) HD0.out HL.out.2.2.2.2
    have HF := Lib.hid f
    clear f D hcl
    go_wp2_with fail
    go_region_law (first
      | (go_simp; go_at_call 27; refine (HOP.out _).mono ?_; rintro e w2 ⟨n', g, rfl, N, T⟩; obtain ⟨q1, q0, ⟨u5, g5, f5⟩, q2, x', X⟩ := again_mem HL.out.1 HL.out.2.1 HF.out t' (by rw [HL.out.2.2.2.1, ← HLN.out]) N ⟨T.size, T.keep, T.new⟩; rw [HL.out.2.2.2.1, ← HLN.out] at q1; rw [HL.out.2.2.1, ← HLN.out] at q0; have q3 := q2 _ _ HD0.out (by rw [HL.out.2.2.1]; rfl); have HX := Lib.hid X; clear N T X q2))
    all_goals
      go_wp2_with fail
      go_ret
      exact ⟨x', rfl, HX.out⟩
end Go.Proofs.YtiinelmednbpmaaGreat.Slog
