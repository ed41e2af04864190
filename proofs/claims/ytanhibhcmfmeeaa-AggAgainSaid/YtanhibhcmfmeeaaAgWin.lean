import Derived.Test.YtanhibhcmfmeeaaAgAll
import Derived.Test.YtanhibhcmfmeeaaWinAll
/- A vertex over a table of windows: what a record meets, what it puts, Late, Expire. -/
namespace Go.Proofs.Ytanhibhcmfmeeaa.Ag
open Go.RowKit Go.Proofs.YtanhibhcmfmeeaaW.PrintWords Go.Proofs.YtanhibhcmfmeeaaW.PrintMore Go.Proofs.Ytanhibhcmfmeeaa.Cut Go.Proofs.Ytanhibhcmfmeeaa.Fr Go.Proofs.Ytanhibhcmfmeeaa.SlK Go.Proofs.Ytanhibhcmfmeeaa.Ex
open Go.Proofs.Ytanhibhcmfmeeaa.Win (St P2 startF)
abbrev ifWin (s : Nat) : Value := .iface 75 (.pointer (some ⟨s, 0, none⟩))
theorem assert_win_kv (s : Nat) (w : World) : (Instr.typeAssert (ifWin s) 60 71 true).run Try.prog w = .ok (.tuple #[.pointer none, .bool false]) w := by kernel_rfl
theorem assert_win (s : Nat) (w : World) : (Instr.typeAssert (ifWin s) 60 75 true).run Try.prog w = .ok (.tuple #[.pointer (some ⟨s, 0, none⟩), .bool true]) w := by kernel_rfl
/-- The blocks of a table of windows. -/
def Fw (s b : Nat) (k : Nat) : Prop := k = s ∨ k = b
theorem win_move {w w' : World} {s : Nat} {room size : Int} {b : Nat} {m : St} (h : Win.Own w s room size b m) (h1 : w'.heap[s]? = w.heap[s]?) (h2 : w'.heap[b]? = w.heap[b]?) : Win.Own w' s room size b m := by
  obtain ⟨D, ⟨es, clock, hb, F, hn, hD⟩, hA⟩ := h.map
  exact ⟨h1.trans h.row, ⟨D, ⟨es, clock, h2.trans hb, F, hn, hD⟩, hA⟩, h.sorted, h.wf, h.rng, h.fits⟩
theorem win_mv {w w' : World} {s : Nat} {room size : Int} {b : Nat} {m : St} (h : Win.Own w s room size b m) {G G' : Nat → Prop} (hm : Mv w w' G G') (h1 : ¬ G s) (h2 : ¬ G b) : Win.Own w' s room size b m :=
  win_move h (hm.keep s h.lt.1 h1) (hm.keep b h.lt.2.1 h2)
theorem win_below {w w' : World} {s : Nat} {room size : Int} {b : Nat} {m : St} (h : Win.Own w s room size b m) (hb : Below w.heap.size w w') : Win.Own w' s room size b m :=
  win_move h (hb.block s h.lt.1) (hb.block b h.lt.2.1)
theorem start_w64 {size time : Int} (hs : 1 ≤ size) : Win.W64 (startF size time) := by
  have h1 := Win.startF_le (time := time) hs
  have h2 : -1 ≤ startF size time := by
    unfold startF
    split
    · omega
    · rename_i h
      have e1 := Int.mul_ediv_add_emod time size
      have e2 : 0 ≤ size * (time / size) := Int.mul_nonneg (by omega) (Int.ediv_nonneg (by omega) (by omega))
      omega
  exact WalkArith.wf_i64 (by omega)
/-- A time that may be has a window. -/
theorem start_facts {n a : Int} (hn : 1 ≤ n) (h0 : 0 ≤ a) (h1 : a ≤ 1099511627776) : startF n a = n * (a / n) ∧ 0 ≤ startF n a ∧ startF n a ≤ a ∧ a < startF n a + n := by
  have e1 := Int.mul_ediv_add_emod a n
  have e2 : 0 ≤ n * (a / n) := Int.mul_nonneg (by omega) (Int.ediv_nonneg (by omega) (by omega))
  have e3 := Int.emod_nonneg a (show n ≠ 0 by omega)
  have e4 := Int.emod_lt_of_pos a (show 0 < n by omega)
  unfold startF
  rw [if_neg (by omega)]
  omega
set_option maxHeartbeats 4000000 in
theorem gathered_win {w0 w : World} {a s b : Nat} {kind n room size : Int} {x : Ex} {m : St} (h : AgV w0 w a kind n x (ifWin s)) (hO : Win.Own w s room size b m) (key val time : Int) (hk : Win.W64 key) (W : World) (hW : Below w.heap.size w W) :
    Calls Try.prog 24 #[.pointer (some ⟨a, 0, none⟩), recV key val time] W fun e w' => e = .returned (.int .i64 ((Win.look m (startF size time, key)).getD 0)) ∧ Below W.heap.size W w' := by
  unfold recV
  have hta := assert_win_kv s
  have htb := assert_win s
  have hB := below_alloc (Below.refl W.heap.size W) (.cells #[.int .i64 key, .int .i64 val, .int .i64 time] 36)
  obtain ⟨kA, kc, c0, c2, c3, c4, c5, c6, hx⟩ := ((h.below hW).below hB).cells
  have hg := Win.get_calls (win_below (win_below hO hW) hB) key time hk (start_w64 hO.rng.2.2.1)
  generalize (Win.look m (startF size time, key)).getD 0 = r at hg ⊢
  generalize (Win.look m (startF size time, key)).isSome = o at hg
  have HB := Lib.hid hB
  clear h hO hW c0 c2 c3 c4 c5 hx hB
  go_enter Try.func24, Try.ntmps24
  go_wp2_with ((with_reducible refine hg.mono ?_); rintro e w1 ⟨rfl, q, rfl⟩)
  go_ret
  exact ⟨rfl, pw_below_drewN HB.out _⟩
/-- A change of a window. -/
def winT (size f key v : Int) : T5 := (key, f, f + size, v, false)
set_option maxHeartbeats 4000000 in
theorem put_win {w0 w : World} {a s b : Nat} {kind n room size : Int} {x : Ex} {m : St} (h : AgV w0 w a kind n x (ifWin s)) (hO : Win.Own w s room size b m) (key val time rn : Int) (hk : Win.W64 key) (hr : Win.W64 rn) (h0 : 0 ≤ startF size time) (hf : Win.look m (startF size time, key) = none → (m.length : Int) < room) (V : World) (hV : Below w.heap.size w V) :
    Calls Try.prog 25 #[.pointer (some ⟨a, 0, none⟩), recV key val time, .int .i64 rn] V (PutQ V (Fw s b) kind (fun V' er chs w1 => er = 0 ∧ chs = [winT size (startF size time) key rn] ∧ Win.Own w1 s room size b (Win.put (startF size time, key) rn m) ∧ Mv V' w1 (Fw s b) (Fw s b))) := by
  unfold recV
  have hta := assert_win_kv s
  have htb := assert_win s
  have hB := below_alloc (Below.refl V.heap.size V) (.cells #[.int .i64 key, .int .i64 val, .int .i64 time] 36)
  have hAV := (h.below hV).below hB
  obtain ⟨kA, kc, c0, c2, c3, c4, c5, c6, hx⟩ := hAV.cells
  have hp := Win.put_ok (win_below (win_below hO hV) hB) key time rn hk hr (start_w64 hO.rng.2.2.1) h0 hf
  have HB := Lib.hid hB
  generalize startF size time = f at hp ⊢
  unfold Win.chg at hp
  clear h hV c0 c2 c3 c4 c5 hx hB hAV hO hf h0
  go_enter Try.func25, Try.ntmps25
  go_wp2_with fail
  refine hp.mono ?_
  rintro e w1 ⟨rfl, hO1, hg1⟩
  have HO1 := Lib.hid hO1; have HG1 := Lib.hid hg1
  clear hp hO1 hg1
  go_wp2_with fail
  go_ret2
  have hM2 : Mv V w1 (Fw s b) (Fw s b) := (Mv.of_below _ HB.out).trans (Mv.of_grown HG1.out (fun k e => .inr (Option.some.inj e).symm) fun k e => .inl e)
  have hB2 : Below w1.heap.size w1 (w1.alloc (.cells (encC (winT size f key rn)).toArray 50)) := below_alloc (Below.refl _ _) _
  have hB3 := below_then hB2 hB2.size (below_alloc (Below.refl _ _) (.cells (encC (winT size f key rn)).toArray 50))
  have hrow := own_lit5 (w1.alloc (.cells (encC (winT size f key rn)).toArray 50)) V.heap.size (winT size f key rn) (by have := hM2.size; simp; omega)
  have hsz : (w1.alloc (.cells (encC (winT size f key rn)).toArray 50)).heap.size = w1.heap.size + 1 := by simp
  rw [hsz] at hrow
  have hM3 := hM2.trans (Mv.of_below _ hB3)
  exact ⟨_, 0, [winT size f key rn], Fw s b, rfl, row5_one hrow, fun _ _ => by simp, hM3, rfl, rfl, win_below HO1.out hB3, hM3⟩
def OpenWin (w : World) (n : Int) (e : Ending) (w' : World) : Prop := ∃ s b, e = .returned (.tuple #[ifWin s, .int .i64 0]) ∧ Win.Own w' s 1024 n b [] ∧ Below w.heap.size w w' ∧ w.heap.size ≤ s ∧ w.heap.size ≤ b
set_option maxHeartbeats 4000000 in
theorem open_win {w : World} {n : Int} {x : Ex} {v : Value} (h : VxV w 7 n x v) (hn : 1 ≤ n ∧ n ≤ 1048576) : Calls Try.prog 21 #[v] w (OpenWin w n) := by
  obtain ⟨fA, fn, fc, kA, kc, rfl, hx⟩ := h.out
  have hb := below_alloc (Below.refl w.heap.size w) (.cells #[.int .i64 7, .slice fA fn fc, .int .i64 x.op, .int .i64 x.n, .slice kA x.kids.length kc, .int .i64 n] 33)
  have hn := Win.new_calls 1024 n ⟨by decide, by decide, hn.1, hn.2⟩ (w.alloc (.cells #[.int .i64 7, .slice fA fn fc, .int .i64 x.op, .int .i64 x.n, .slice kA x.kids.length kc, .int .i64 n] 33))
  have HB := Lib.hid hb
  clear h hx hb
  go_enter Try.func21, Try.ntmps21
  go_wp2_with ((with_reducible refine hn.mono ?_); rintro e w1 ⟨rfl, hO, hB1⟩)
  go_ret2
  have hsz : (w.alloc (.cells #[.int .i64 7, .slice fA fn fc, .int .i64 x.op, .int .i64 x.n, .slice kA x.kids.length kc, .int .i64 n] 33)).heap.size = w.heap.size + 1 := by simp
  rw [hsz] at hO
  exact ⟨w.heap.size + 1 + 1, w.heap.size + 1, rfl, hO, below_then HB.out HB.out.size hB1, by omega, by omega⟩
end Go.Proofs.Ytanhibhcmfmeeaa.Ag
/- A vertex with a table of windows: New, Apply, Late, Expire. -/
namespace Go.Proofs.Ytanhibhcmfmeeaa.Ag
open Go.RowKit Go.Proofs.YtanhibhcmfmeeaaW.PrintWords Go.Proofs.YtanhibhcmfmeeaaW.PrintMore Go.Proofs.Ytanhibhcmfmeeaa.Cut Go.Proofs.Ytanhibhcmfmeeaa.Fr Go.Proofs.Ytanhibhcmfmeeaa.SlK Go.Proofs.Ytanhibhcmfmeeaa.Ex
open Go.Proofs.Ytanhibhcmfmeeaa.Win (St P2 startF)
/-- A vertex with windows: at block a, the table at block s, its map at block b. -/
structure AgW (w0 w : World) (a s b : Nat) (n : Int) (x : Ex) (m : St) : Prop where
  vx : AgV w0 w a 7 n x (ifWin s)
  tb : Win.Own w s 1024 n b m
  bs : w0.heap.size ≤ s
  bb : w0.heap.size ≤ b
theorem AgW.below {w0 w w' : World} {a s b : Nat} {n : Int} {x : Ex} {m : St} (h : AgW w0 w a s b n x m) (hb : Below w.heap.size w w') : AgW w0 w' a s b n x m := ⟨h.vx.below hb, win_below h.tb hb, h.bs, h.bb⟩
/-- Blocks of cells of other types are none of its table's. -/
theorem AgW.far {w0 w : World} {a s b : Nat} {n : Int} {x : Ex} {m : St} (h : AgW w0 w a s b n x m) {k : Nat} {cs : Array Value} {t : TypeId} {fr : Nat × Nat} (hk : w.heap[k]? = some (.cells cs t fr)) (h1 : t ≠ 108) : ¬ Fw s b k := by
  rintro (e | e)
  · have := h.tb.row
    rw [← e, hk] at this
    injection this with this
    injection this with _ this
    exact h1 this
  · obtain ⟨D, ⟨es, clock, hb, _⟩, _⟩ := h.tb.map
    rw [← e, hk] at hb
    cases hb
theorem AgW.ne {w0 w : World} {a s b : Nat} {n : Int} {x : Ex} {m : St} (h : AgW w0 w a s b n x m) : ¬ Fw s b a := by
  obtain ⟨_, _, _, _, _, hr, _⟩ := h.vx.row
  exact h.far hr (by decide)
def NewWin (w : World) (n : Int) (x : Ex) (v : Value) (e : Ending) (w' : World) : Prop :=
  ∃ a s b, e = .returned (.tuple #[.pointer (some ⟨a, 0, none⟩), .int .i64 0]) ∧ AgW w w' a s b n x [] ∧ s < a ∧ b < a ∧ w.heap.size ≤ a ∧ Below w.heap.size w w' ∧ ∃ fA fn fc kA kc, v = .agg #[.int .i64 7, .slice fA fn fc, .int .i64 x.op, .int .i64 x.n, .slice kA x.kids.length kc, .int .i64 n] ∧ w'.heap[a]? = some (.cells #[.int .i64 7, .slice fA fn fc, .int .i64 x.op, .int .i64 x.n, .slice kA x.kids.length kc, .int .i64 n, ifWin s] 64 (0, 0))
set_option maxHeartbeats 4000000 in
theorem new_win {w : World} {n : Int} {x : Ex} {v : Value} (h : VxV w 7 n x v) (hn : 1 ≤ n ∧ n ≤ 1048576) (hm : mayE x = true) : Calls Try.prog 10 #[v] w (NewWin w n x v) := by
  obtain ⟨fA, fn, fc, kA, kc, rfl, hx⟩ := h.out
  obtain ⟨W, hW⟩ : ∃ W, W = w.alloc (.cells #[.int .i64 7, .slice fA fn fc, .int .i64 x.op, .int .i64 x.n, .slice kA x.kids.length kc, .int .i64 n] 33) := ⟨_, rfl⟩
  have hb : Below w.heap.size w W := by rw [hW]; exact below_alloc (Below.refl w.heap.size w) _
  have hr : W.heap[w.heap.size]? = some (.cells #[.int .i64 7, .slice fA fn fc, .int .i64 x.op, .int .i64 x.n, .slice kA x.kids.length kc, .int .i64 n] 33 (0, 0)) := by rw [hW]; exact (Go.MapKept.heap_alloc w _).1
  have hM := May_calls x _ W (hx.below hb)
  rw [hm] at hM
  have c0 : W.cell? ⟨w.heap.size, 0, none⟩ = some (.int .i64 7) := (blk_cell hr 0).trans rfl
  have c1 : W.cell? ⟨w.heap.size, 1, none⟩ = some (.slice fA fn fc) := (blk_cell hr 1).trans rfl
  have c2 : W.cell? ⟨w.heap.size, 2, none⟩ = some (.int .i64 x.op) := (blk_cell hr 2).trans rfl
  have c3 : W.cell? ⟨w.heap.size, 3, none⟩ = some (.int .i64 x.n) := (blk_cell hr 3).trans rfl
  have c4 : W.cell? ⟨w.heap.size, 4, none⟩ = some (.slice kA x.kids.length kc) := (blk_cell hr 4).trans rfl
  have c5 : W.cell? ⟨w.heap.size, 5, none⟩ = some (.int .i64 n) := (blk_cell hr 5).trans rfl
  have ho := fun V (hV : Below w.heap.size w V) => open_win (h.below hV) hn
  have HW := Lib.hid hW; have HB := Lib.hid hb; have HO := Lib.hid ho; have HX := Lib.hid hx
  have hw0 : w.heap.size < W.heap.size := (Array.getElem?_eq_some_iff.1 hr).1
  clear h hn hm hW hb ho hr hx
  go_enter Try.func10, Try.ntmps10
  go_upto_region 1 with fail
  rw [← HW.out]
  go_wp2_with fail
  refine hM.mono ?_
  rintro e w1 ⟨rfl, hB1⟩
  obtain ⟨k0, k1, k2, k3, k4, k5⟩ : w1.cell? ⟨w.heap.size, 0, none⟩ = some (.int .i64 7) ∧ w1.cell? ⟨w.heap.size, 1, none⟩ = some (.slice fA fn fc) ∧ w1.cell? ⟨w.heap.size, 2, none⟩ = some (.int .i64 x.op) ∧ w1.cell? ⟨w.heap.size, 3, none⟩ = some (.int .i64 x.n) ∧ w1.cell? ⟨w.heap.size, 4, none⟩ = some (.slice kA x.kids.length kc) ∧ w1.cell? ⟨w.heap.size, 5, none⟩ = some (.int .i64 n) := ⟨keepB hB1 c0, keepB hB1 c1, keepB hB1 c2, keepB hB1 c3, keepB hB1 c4, keepB hB1 c5⟩
  have hB2 := below_then HB.out HB.out.size hB1
  have ho := HO.out w1 hB2
  have HB2 := Lib.hid hB2
  clear c0 c1 c2 c3 c4 c5 hM hB1 hB2
  go_wp2_with fail
  refine ho.mono ?_
  rintro e w2 ⟨s, b, rfl, hK, hB3, hs, hsb⟩
  obtain ⟨c0, c1, c2, c3, c4, c5⟩ : w2.cell? ⟨w.heap.size, 0, none⟩ = some (.int .i64 7) ∧ w2.cell? ⟨w.heap.size, 1, none⟩ = some (.slice fA fn fc) ∧ w2.cell? ⟨w.heap.size, 2, none⟩ = some (.int .i64 x.op) ∧ w2.cell? ⟨w.heap.size, 3, none⟩ = some (.int .i64 x.n) ∧ w2.cell? ⟨w.heap.size, 4, none⟩ = some (.slice kA x.kids.length kc) ∧ w2.cell? ⟨w.heap.size, 5, none⟩ = some (.int .i64 n) := ⟨keepB hB3 k0, keepB hB3 k1, keepB hB3 k2, keepB hB3 k3, keepB hB3 k4, keepB hB3 k5⟩
  have hB4 := below_then HB2.out HB2.out.size hB3
  have hs := Nat.le_trans HB2.out.size hs; have hsb := Nat.le_trans HB2.out.size hsb
  have HK := Lib.hid hK; have HB4 := Lib.hid hB4; have HS := Lib.hid (And.intro hs hsb)
  clear ho hK hB3 hB4 hs hsb k0 k1 k2 k3 k4 k5 HB2 HO HB HW
  go_wp2_with fail
  go_ret2
  have hB5 : Below w2.heap.size w2 (w2.alloc (.cells #[.int .i64 7, .slice fA fn fc, .int .i64 x.op, .int .i64 x.n, .slice kA x.kids.length kc, .int .i64 n, ifWin s] 64)) := below_alloc (Below.refl _ _) _
  have hwz := HB4.out.size
  refine ⟨_, s, b, rfl, ⟨⟨below_then HB4.out HB4.out.size hB5, HB4.out.size, fA, fn, fc, kA, kc, (Go.MapKept.heap_alloc w2 _).1, HX.out⟩, win_below HK.out hB5, by have := HS.out.1; omega, by have := HS.out.2; omega⟩, HK.out.lt.1, HK.out.lt.2.1, HB4.out.size, below_then HB4.out HB4.out.size hB5, fA, fn, fc, kA, kc, rfl, (Go.MapKept.heap_alloc w2 _).1⟩
def ApW (w0 w : World) (a s b : Nat) (n : Int) (x : Ex) (m : St) (key r time : Int) (e : Ending) (w' : World) : Prop :=
  ∃ sl, e = .returned (.tuple #[recV key r (startF n time), sl, .int .i64 0]) ∧ Row5 w' w.heap.size sl [winT n (startF n time) key r] ∧ AgW w0 w' a s b n x (Win.put (startF n time, key) r m) ∧ Mv w w' (Fw s b) (Fw s b)
theorem apply_win {w0 w : World} {a s b : Nat} {n : Int} {x : Ex} {m : St} (h : AgW w0 w a s b n x m) (key val time r : Int) (hk : Win.W64 key) (hr : Win.W64 r) (ht : mayT time = true) (he : evalF ⟨key, val, time, (Win.look m (startF n time, key)).getD 0⟩ x = (r, 0)) (hf : Win.look m (startF n time, key) = none → m.length < 1024) :
    Calls Try.prog 12 #[.pointer (some ⟨a, 0, none⟩), recV key val time] w (ApW w0 w a s b n x m key r time) := by
  have hne := h.ne
  have h01 : 0 ≤ time ∧ time ≤ 1099511627776 := of_decide_eq_true ht
  have h0 := (start_facts h.tb.rng.2.2.1 h01.1 h01.2).2.1
  refine (apply_put h.vx key val time _ r ht (fun W hW => gathered_win h.vx h.tb key val time hk W hW) he (Fw s b) (fun k hk => ⟨?_, fun e => hne (e ▸ hk)⟩) _ (fun V hV => put_win h.vx h.tb key val time r hk hr h0 (fun hl => by have := hf hl; omega) V hV)).mono ?_
  · rcases hk with rfl | rfl
    · exact h.tb.lt.1
    · exact h.tb.lt.2.1
  rintro e w' ⟨V, w1, sl, er, chs, Ft', hV, hVs, hR5, _, ⟨rfl, rfl, hO, hM⟩, hM2, rfl⟩
  have hsz : w.heap.size ≤ V.heap.size := by omega
  have n1 : ∀ k, Fw s b k → k < w.heap.size := fun k hk => by
    rcases hk with rfl | rfl
    · exact h.tb.lt.1
    · exact h.tb.lt.2.1
  have hMw : Mv w w' (Fw s b) (Fw s b) := by
    have h1 := (Mv.of_below (Fw s b) hV).trans hM
    refine ⟨hM2.os.trans h1.os, hM2.tape.trans h1.tape, hM2.output.trans h1.output, Nat.le_trans h1.size hM2.size, fun k hk hs => ?_, h1.new⟩
    exact (hM2.keep k (Nat.lt_of_lt_of_le hk h1.size) (by omega)).trans (h1.keep k hk hs)
  have ns := n1 s (.inl rfl)
  have nb := n1 b (.inr rfl)
  refine ⟨sl, rfl, ?_, ⟨h.vx.mv hMw (fun k hk => ?_) hne, win_mv hO hM2 (by omega) (by omega), h.bs, h.bb⟩, hMw⟩
  · exact Kd.R_lower (Kd.R_mono (Kd.R_move (Kd.R_bound hR5) fun k hk => hM2.keep k (by have := hk.2.2.1; omega) (by have := hk.2.1; omega)) fun _ _ => trivial) hsz
  · rcases hk with rfl | rfl
    · exact h.bs
    · exact h.bb
set_option maxHeartbeats 4000000 in
theorem late_win {w0 w : World} {a s b : Nat} {n : Int} {x : Ex} {m : St} (h : AgW w0 w a s b n x m) (key val time mark : Int) :
    Calls Try.prog 17 #[.pointer (some ⟨a, 0, none⟩), recV key val time, .int .i64 mark] w fun e w' => e = .returned (.bool (mayT time && decide (startF n time + n ≤ mark))) ∧ Below w.heap.size w w' := by
  unfold recV
  obtain ⟨W, hW⟩ : ∃ W, W = w.alloc (.cells #[.int .i64 key, .int .i64 val, .int .i64 time] 36) := ⟨_, rfl⟩
  have hB : Below w.heap.size w W := by rw [hW]; exact below_alloc (Below.refl _ _) _
  have hr : W.heap[w.heap.size]? = some (.cells #[.int .i64 key, .int .i64 val, .int .i64 time] 36 (0, 0)) := by rw [hW]; exact (Go.MapKept.heap_alloc w _).1
  have hA := h.below hB
  obtain ⟨kA, kc, c0, c2, c3, c4, c5, c6, _⟩ := hA.vx.cells
  have hm := mayT_calls time W
  have d2 : W.cell? ⟨w.heap.size, 2, none⟩ = some (.int .i64 time) := (blk_cell hr 2).trans rfl
  have hta := assert_win s
  have hst := fun k => Win.start_calls (hA.tb.drewN k) time
  have hrg := h.tb.rng
  have hle := Win.startF_le (time := time) hrg.2.2.1
  have hsf : mayT time = true → 0 ≤ startF n time := fun e => by
    have h01 : 0 ≤ time ∧ time ≤ 1099511627776 := of_decide_eq_true e
    exact (start_facts hrg.2.2.1 h01.1 h01.2).2.1
  generalize startF n time = f at hst hle hsf ⊢
  generalize mayT time = o at hm hsf ⊢
  have HW := Lib.hid hW; have HB := Lib.hid hB
  clear h hW hB hr hA c0 c2 c3 c4
  cases o with
  | false =>
    clear hsf hle hrg hst
    rw [Bool.false_and]
    go_enter Try.func17, Try.ntmps17
    go_upto_region 1 with fail
    rw [← HW.out]
    go_wp2_with ((with_reducible refine hm.mono ?_); rintro e w1 ⟨rfl, rfl⟩)
    go_ret
    exact ⟨rfl, HB.out⟩
  | true =>
    have hw : IntKind.i64.wrap (f + n) = f + n := by rw [IntKind.wrap_i64]; have := hsf rfl; omega
    have hw' : wrap64 (f + n) = f + n := by unfold wrap64; have := hsf rfl; omega
    rw [Bool.true_and]
    clear hsf hle hrg
    go_enter Try.func17, Try.ntmps17
    go_upto_region 1 with fail
    rw [← HW.out]
    go_wp2_with ((with_reducible refine hm.mono ?_); rintro e w1 ⟨rfl, rfl⟩)
    rename World => W
    go_quiet (first | (go_at_call 29; refine Calls.quiet_of_same (hst _)))
    go_wp2_with fail
    go_ret
    exact ⟨rfl, pw_below_drewN HB.out _⟩
def ExpW (w0 w : World) (a s b : Nat) (n : Int) (x : Ex) (m : St) (mark : Int) (e : Ending) (w' : World) : Prop :=
  ∃ v, e = .returned v ∧ Row5 w' w.heap.size v (Win.outT n (mark - n) m) ∧ AgW w0 w' a s b n x (Win.restM n (mark - n) m) ∧ Mv w w' (Fw s b) (Fw s b)
set_option maxHeartbeats 4000000 in
theorem expire_win {w0 w : World} {a s b : Nat} {n : Int} {x : Ex} {m : St} (h : AgW w0 w a s b n x m) (mark : Int) (hm : 0 ≤ mark ∧ mark ≤ 9223372036854775807) :
    Calls Try.prog 16 #[.pointer (some ⟨a, 0, none⟩), .int .i64 mark] w (ExpW w0 w a s b n x m mark) := by
  obtain ⟨kA, kc, c0, c2, c3, c4, c5, c6, _⟩ := h.vx.cells
  have hta := assert_win s
  have hex0 := Win.expire_calls h.tb (mark - n)
  have hne := h.ne
  have hrg := h.tb.rng
  have hw : IntKind.i64.wrap (mark - n) = mark - n := by rw [IntKind.wrap_i64]; omega
  have hw' : wrap64 (mark - n) = mark - n := by unfold wrap64; omega
  have hm1 : ¬ mark < 0 := by omega
  have H := Lib.hid h
  clear h hne hrg hm c0 c2 c3 c4
  go_enter Try.func16, Try.ntmps16
  go_wp2_with fail
  refine hex0.mono ?_
  rintro e w1 ⟨v, rfl, hR, hO, hg⟩
  have HF := Lib.hid (And.intro hR (And.intro hO hg))
  clear hex0 hR hO hg
  go_wp2_with fail
  go_ret
  obtain ⟨hR, hO, hg⟩ := HF.out
  have hM : Mv w w1 (Fw s b) (Fw s b) := Mv.of_grown hg (fun k e => .inr (Option.some.inj e).symm) fun k e => .inl e
  refine ⟨v, rfl, hR, ⟨H.out.vx.mv hM (fun k hk => ?_) H.out.ne, hO, H.out.bs, H.out.bb⟩, hM⟩
  rcases hk with rfl | rfl
  · exact H.out.bs
  · exact H.out.bb
end Go.Proofs.Ytanhibhcmfmeeaa.Ag
