import Derived.Test.YtiinelmednbpmaaGreatMOpen
import Derived.Test.YtiinelmednbpmaaGreatMState
/- Rows of payloads that a law keeps; the walk of the law's row. -/
namespace Go.Proofs.YtiinelmednbpmaaGreat.Slog
open Go.RowKit Go.Maps Go.Proofs.YtiinelmednbpmaaGreatW.PrintWords Go.Proofs.YtiinelmednbpmaaGreatW.PrintMore Go.Proofs.YtiinelmednbpmaaGreat.Row Go.Proofs.YtiinelmednbpmaaGreat.Cut Go.Proofs.YtiinelmednbpmaaGreat.DiskM Go.Proofs.YtiinelmednbpmaaGreat.Quor Go.Proofs.YtiinelmednbpmaaGreat.Slot
open Go.Proofs.YtiinelmednbpmaaGreat.Crc (KB sameB lists_calls)
def RowF (w : World) (base : Nat) (ok : Nat → Prop) (v : Value) (row : List (List Int)) : Prop :=
  ∃ zs : List RB, Row w base 32 v (zs.map RB.v) ∧ (∀ j, v.ownBlock = some j → ok j) ∧ zs.map RB.by_ = row ∧ ∀ z ∈ zs, z.by_.length ≤ z.c ∧ Kd.F (Kd.int .u8) w (fun j => ok j ∧ v.ownBlock ≠ some j) z.A z.by_.length z.by_
theorem RowF.nil (w : World) (base : Nat) (ok : Nat → Prop) : RowF w base ok (.slice none 0 0) [] := ⟨[], Row.nil _ _ _, fun j e => by simp [Value.ownBlock] at e, rfl, fun _ h => by cases h⟩
theorem RowF.slice {w : World} {base : Nat} {ok : Nat → Prop} {v : Value} {row : List (List Int)} (h : RowF w base ok v row) : ∃ A c, v = .slice A row.length c := by
  obtain ⟨zs, h1, _, rfl, _⟩ := h
  obtain ⟨A, c, e, _⟩ := h1.slice
  exact ⟨A, c, by simpa using e⟩
theorem RowF.reads {w : World} {base : Nat} {ok : Nat → Prop} {v : Value} {row : List (List Int)} (h : RowF w base ok v row) : ∃ A c, v = .slice A row.length c ∧ row.length ≤ c ∧ KB.C w A row.length row := by
  obtain ⟨zs, h1, _, rfl, h3⟩ := h
  obtain ⟨A, c, hv, hc, hm⟩ := h1.slice
  simp only [List.length_map] at hv hc ⊢
  refine ⟨A, c, hv, hc, by rw [List.length_map], by omega, fun h0 => ?_⟩
  obtain ⟨z0, hz0⟩ : ∃ z, zs[0]? = some z := ⟨_, List.getElem?_eq_getElem h0⟩
  obtain ⟨g, hA, _, _⟩ := h1.cellAt hv 0 z0.v (by rw [List.getElem?_map, hz0]; rfl)
  refine ⟨_, hA, fun j p hj => ?_⟩
  rw [List.getElem?_map] at hj
  cases hz : zs[j]? with
  | none => rw [hz] at hj; cases hj
  | some z =>
    rw [hz] at hj
    obtain rfl := Option.some.inj hj
    obtain ⟨q1, q2⟩ := h3 z (List.mem_of_getElem? hz)
    refine ⟨[z.v], rfl, ⟨z.A, z.c, rfl, q1, Kd.F_now q2⟩, fun i u hu => ?_⟩
    obtain ⟨rfl, rfl⟩ : i = 0 ∧ u = z.v := by
      cases i with
      | zero => exact ⟨rfl, by simpa using hu.symm⟩
      | succ i => simp at hu
    obtain ⟨g', hA', hc', _⟩ := h1.cellAt hv j z.v (by rw [List.getElem?_map, hz]; rfl)
    rw [hA] at hA'
    injection hA' with hA'
    injection hA' with hg
    subst hg
    show w.cell? ((⟨g, 0, none⟩ : Addr).add (j * 1 + 0)) = _
    rw [add_plain]; simpa using hc'
theorem RowF.stp {w w' : World} {base : Nat} {x x' : LB} {v : Value} {row : List (List Int)} (h : RowF w base (fun k => ¬ LF x k) v row) (T : Stp w w' (LF x) (LF x')) : RowF w' base (fun k => ¬ LF x' k) v row := by
  obtain ⟨zs, h1, h2, h3, h4⟩ := h
  refine ⟨zs, h1.move fun k hk => T.keep k (h1.lt k hk).2.1 (h2 k hk), fun j hj e => ?_, h3, fun z hz => ⟨(h4 z hz).1, Kd.F_mono (Kd.F_step (Kd.F_bound (h4 z hz).2) fun k hk hlt => T.keep k hlt hk.1.1) fun k hk => ⟨fun e => ?_, hk.1.2⟩⟩⟩
  · rcases T.new j e with e | e
    · exact h2 j hj e
    · have := (h1.lt j hj).2.1; omega
  · rcases T.new k e with e | e
    · exact hk.1.1 e
    · have := hk.2; omega
theorem RowF.below {w w' : World} {base : Nat} {ok : Nat → Prop} {v : Value} {row : List (List Int)} (h : RowF w base ok v row) (hb : Below w.heap.size w w') : RowF w' base ok v row := by
  obtain ⟨zs, h1, h2, h3, h4⟩ := h
  exact ⟨zs, h1.below hb, h2, h3, fun z hz => ⟨(h4 z hz).1, Kd.F_below (h4 z hz).2 hb⟩⟩
theorem RowF.mono {w : World} {base base' : Nat} {ok ok' : Nat → Prop} {v : Value} {row : List (List Int)} (h : RowF w base ok v row) (hb : base' ≤ base) (hok : ∀ k, ok k → ok' k) : RowF w base' ok' v row := by
  obtain ⟨zs, h1, h2, h3, h4⟩ := h
  exact ⟨zs, row_low h1 hb, fun j hj => hok j (h2 j hj), h3, fun z hz => ⟨(h4 z hz).1, Kd.F_mono (h4 z hz).2 fun k hk => ⟨hok k hk.1, hk.2⟩⟩⟩
/-- One payload more. -/
theorem RowF.push {wx : World} {base : Nat} {ok : Nat → Prop} {v : Value} {row : List (List Int)} (h : RowF wx base ok v row) (hbase : base ≤ wx.heap.size) (hok : ∀ k, wx.heap.size ≤ k → ok k) (A : Option Addr) (c : Nat) (b : List Int) (hc : b.length ≤ c) (hF : Kd.F (Kd.int .u8) wx (fun j => ok j ∧ v.ownBlock ≠ some j) A b.length b) (hl : row.length ≤ 4096) :
    ∃ A5 c5 w5, (Builtin.append_ #[22, 22] 22 #[v, .slice (some ⟨wx.heap.size, 0, none⟩) 1 1]).run Tryz.prog (wx.alloc (.cells #[.slice A b.length c] 32)) = .ok (.slice A5 (row.length + 1) c5) w5 ∧ RowF w5 base ok (.slice A5 (row.length + 1) c5) (row ++ [b]) ∧
      (∀ j, j < wx.heap.size → v.ownBlock ≠ some j → w5.heap[j]? = wx.heap[j]?) ∧ wx.heap.size ≤ w5.heap.size ∧ ((wx.alloc (.cells #[.slice A b.length c] 32)).grownBy w5 v.ownBlock) ∧ v.ownBlock ≠ some wx.heap.size := by
  obtain ⟨zs, h1, h2, h3, h4⟩ := h
  have hba := (Below.refl wx.heap.size wx).alloc (Nat.le_refl _) (.cells #[.slice A b.length c] 32)
  have hzl : zs.length = row.length := by rw [← h3, List.length_map]
  have hsA : (wx.alloc (.cells #[.slice A b.length c] 32)).heap.size = wx.heap.size + 1 := by simp
  obtain ⟨v5, w5, hrun, hrow, hgr, hat⟩ := append_row (wx.alloc (.cells #[.slice A b.length c] 32)) base v (zs.map RB.v) (h1.below hba) ⟨wx.heap.size, 0, none⟩ (.slice A b.length c) ((blk_cell (heap_alloc_new wx _) 0).trans rfl) rfl (by rw [List.length_map]; omega) (by omega)
  obtain ⟨A5, c5, e5, _⟩ := hrow.slice
  have hlen : (zs.map RB.v ++ [Value.slice A b.length c]).length = row.length + 1 := by simp [hzl]
  rw [hlen] at e5
  have hs5 := hgr.size
  have hold : ∀ j, j < wx.heap.size → v.ownBlock ≠ some j → w5.heap[j]? = wx.heap[j]? := fun j hj hn => (hgr.block j (by omega) (fun e => hn e.symm)).trans (hba.block j hj)
  have hv5 : ∀ j, v5.ownBlock = some j → v.ownBlock = some j ∨ wx.heap.size < j := fun j e => by
    rcases hat with q | ⟨i, q, hi⟩
    · exact .inl (q ▸ e)
    · rw [q] at e; injection e with e; exact .inr (by omega)
  have hF5 : ∀ {A' : Option Addr} {b' : List Int}, Kd.F (Kd.int .u8) wx (fun j => ok j ∧ v.ownBlock ≠ some j) A' b'.length b' → Kd.F (Kd.int .u8) w5 (fun j => ok j ∧ v5.ownBlock ≠ some j) A' b'.length b' := fun hf =>
    Kd.F_mono (Kd.F_step (Kd.F_bound hf) fun j hj hlt => hold j hlt hj.1.2) fun j hj => ⟨hj.1.1, fun e => by
      rcases hv5 j e with q | q
      · exact hj.1.2 q
      · have := hj.2; omega⟩
  refine ⟨A5, c5, w5, by rw [← e5]; exact hrun, ⟨zs ++ [⟨A, c, b⟩], by rw [← e5, List.map_append]; exact hrow, fun j e => ?_, by rw [List.map_append, h3]; rfl, fun z hz => ?_⟩, hold, by omega, hgr, fun e => ?_⟩
  · rw [← e5] at e
    rcases hv5 j e with q | q
    · exact h2 j q
    · exact hok j (by omega)
  · rw [← e5]
    rcases List.mem_append.1 hz with hz | hz
    · exact ⟨(h4 z hz).1, hF5 (h4 z hz).2⟩
    · obtain rfl := List.mem_singleton.1 hz
      exact ⟨hc, hF5 hF⟩
  · have := (h1.lt _ e).2.1; omega
theorem RI.rowF {w2 wx : World} {b1 : Nat} {v : Value} {acc : List (List Int)} {ok : Nat → Prop} (h : RI w2 b1 wx v acc) (hok : ∀ k, b1 ≤ k → ok k) : RowF wx b1 ok v acc := by
  obtain ⟨⟨zs, h1, h2, h3⟩, _, hv⟩ := h
  refine ⟨zs, h1, fun j e => hok j (h1.lt j e).1, h2, fun z hz => ?_⟩
  obtain ⟨q1, q2⟩ := h3 z hz
  obtain ⟨A, c, e, hc, _⟩ := q1.reads
  injection e with _ _ e3
  refine ⟨by rw [e3]; exact hc, F_row q1 fun k hk => ⟨hok k (q2 k hk), fun e => ?_⟩⟩
  obtain ⟨_, _, c1, hc1⟩ := h1.lt k e
  obtain ⟨_, _, c2, hc2⟩ := q1.lt k hk
  exact blk_ne hc1 hc2 (by decide) rfl
theorem RowB.but {w w' : World} {base : Nat} {ok : Nat → Prop} {vr : Value} {row : List (List Int)} (h : RowB w base ok vr row) (hm : ∀ k, k < w.heap.size → (vr.ownBlock = some k ∨ ∃ cs, w.heap[k]? = some (.cells cs 5 (0, 0))) → w'.heap[k]? = w.heap[k]?) : RowB w' base ok vr row := by
  obtain ⟨zs, h1, h2, h3⟩ := h
  refine ⟨zs, h1.move fun k hk => hm k (h1.lt k hk).2.1 (.inl hk), h2, fun z hz => ⟨(h3 z hz).1.move fun k hk => ?_, (h3 z hz).2⟩⟩
  obtain ⟨_, hlt, cur, hc⟩ := (h3 z hz).1.lt k hk
  exact hm k hlt (.inr ⟨cur, hc⟩)
/-- The log stays, if its blocks do, and all bytes. -/
theorem Lg.but {w0 w w' : World} {x : LB} {room : Int} {s : LS} (h : Lg w0 w x room s) (hb : Below w0.heap.size w0 w') (hsz : w.heap.size ≤ w'.heap.size) (hk : ∀ k, k < w.heap.size → (LF x k ∨ ∃ cs, w.heap[k]? = some (.cells cs 5 (0, 0))) → w'.heap[k]? = w.heap[k]?) : Lg w0 w' x room s := by
  refine ⟨hb, h.low, (hk _ (Array.getElem?_eq_some_iff.1 h.blk).1 (.inl (.inl (.inl rfl)))).trans h.blk, h.dk.move fun k e => hk k (h.dk.lt k e).2.1 (.inl (.inl (.inr (.inl e.symm)))), h.nd.move fun k e => hk k (h.nd.lt k e).2.1 (.inl (.inl (.inr (.inr (.inl e.symm))))), h.vrn, h.row.but (fun k hlt hkk => ?_), h.rng, h.len, h.few, fun i n t hn ht => NS.but (h.each i n t hn ht) hb hsz fun k hlt hh => ?_, h.apart⟩
  · rcases hkk with hkk | hkk
    · exact hk k hlt (.inl (.inr hkk.symm))
    · exact hk k hlt (.inr hkk)
  · rcases hh with hh | hh
    · exact hk k hlt (.inl (.inl (.inr (.inr (.inr ⟨n, List.mem_of_getElem? hn, hh⟩)))))
    · exact hk k hlt (.inr hh)
def RowP (w : World) (row : List (List Int)) (e : Ending) (w' : World) : Prop := ∃ v, e = .returned v ∧ RI w w.heap.size w' v row
set_option maxRecDepth 100000 in
set_option maxHeartbeats 4000000 in
theorem row_calls {w0 w : World} {x : LB} {room : Int} {s : LS} (L : Lg w0 w x room s) : Calls Tryz.prog 14 #[.pointer (some ⟨x.lg, 0, none⟩)] w (RowP w s.row) := by
  have hrl := L.rng.1
  have HL := Lib.hid L
  obtain ⟨n, hn⟩ : ∃ n, n = s.row.length := ⟨_, rfl⟩
  rw [← hn] at hrl
  have HN := Lib.hid hn
  clear L hn
  go_enter Tryz.func14, Tryz.ntmps14
  go_wp2_with fail
  go_loopw [3, 4] (fun v i wx => ∃ (k : Nat), k ≤ n ∧ i = .int .i64 k ∧ RI w w.heap.size wx v (s.row.take k)) (fun _ i _ => n - (intOf i).toNat)
  case atStart => exact ⟨0, Nat.zero_le _, rfl, RI.start _ _⟩
  case round =>
    obtain ⟨k, hk, rfl, hI⟩ := hrel
    rename World => wx
    have Lx := HL.out.below hI.2.1
    have hln := len_calls Lx
    rw [← HN.out] at hln
    have hk0 : (0 : Int) ≤ (k : Int) := by omega
    by_cases hlt : k < n
    · have hlti : (k : Int) < (n : Int) := by omega
      have hk5 : (k : Int) < 5000 := by omega
      obtain ⟨b, hb⟩ : ∃ b, s.row[k]? = some b := ⟨_, List.getElem?_eq_getElem (by rw [← HN.out]; exact hlt)⟩
      have hgt := get_calls Lx k b hb
      have HI := Lib.hid hI; have HB := Lib.hid hb
      clear Lx hI hb
      go_wp2_with (go_at_call 25; refine hln.mono ?_; rintro e w' ⟨rfl, rfl⟩)
      refine hgt.mono ?_
      rintro e w3 ⟨A, c, rfl, hrow, hb3⟩
      have hbs := HI.out.2.1.size
      have hI3 := HI.out.below hb3
      obtain ⟨Av, cv, hv⟩ := hI3.slice
      have hlk : (s.row.take k).length = k := by rw [List.length_take]; have := HN.out; omega
      rw [hlk] at hv
      obtain ⟨A5, c5, w5, hrun, hI5, _⟩ := hI3.push (Nat.le_refl _) ⟨A, c, b⟩ (row_low hrow hbs) (by rw [hlk]; omega)
      rw [hlk] at hrun hI5
      rw [hv] at hrun
      have htk : s.row.take k ++ [b] = s.row.take (k + 1) := (take_snoc'' HB.out).symm
      simp only at hI5
      rw [htk] at hI5
      have HRun := Lib.hid hrun; have HF := Lib.hid hI5
      obtain ⟨bl, hbl⟩ : ∃ bl, bl = b.length := ⟨_, rfl⟩
      have e : (⟨A, c, b⟩ : RB).v = .slice A bl c := by rw [hbl]
      rw [e] at HRun
      rw [← hbl]
      subst hv
      clear hgt hln hrow hb3 hbs hI3 hlk hrun hI5 htk hbl e
      go_wp2_with (at_builtin; refine wp_append_run rfl _ _ 22 (by rfl) _ _ _ (by rfl) (by rfl) HRun.out ?_)
      go_roundw
      case rel => exact ⟨k + 1, by omega, by go_num, HF.out⟩
      case measure => simp only [intOf]; omega
    · obtain rfl : k = n := by omega
      have HI := Lib.hid hI
      clear Lx hI
      go_wp2_with (go_at_call 25; refine hln.mono ?_; rintro e w' ⟨rfl, rfl⟩)
      go_ret
      have := HI.out
      rw [List.take_of_length_le (by rw [HN.out]; exact Nat.le_refl _)] at this
      exact ⟨_, rfl, this⟩
end Go.Proofs.YtiinelmednbpmaaGreat.Slog
