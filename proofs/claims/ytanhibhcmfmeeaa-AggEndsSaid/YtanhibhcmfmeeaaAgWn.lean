import Derived.Test.YtanhibhcmfmeeaaAgNew
import Derived.Test.YtanhibhcmfmeeaaWinAll
/- A vertex over a table of windows: what a record meets, what it puts, Late, Expire. -/
namespace Go.Proofs.Ytanhibhcmfmeeaa.Ag
open Go.RowKit Go.Proofs.YtanhibhcmfmeeaaW.PrintWords Go.Proofs.YtanhibhcmfmeeaaW.PrintMore Go.Proofs.Ytanhibhcmfmeeaa.Cut Go.Proofs.Ytanhibhcmfmeeaa.Fr Go.Proofs.Ytanhibhcmfmeeaa.SlK Go.Proofs.Ytanhibhcmfmeeaa.Ex
open Go.Proofs.Ytanhibhcmfmeeaa.Win (St P2 startF)
abbrev ifWin (s : Nat) : Value := .iface 75 (.pointer (some ⟨s, 0, none⟩))
theorem assert_win_kv (s : Nat) (w : World) : (Instr.typeAssert (ifWin s) 60 71 true).run Try.prog w = .ok (.tuple #[.pointer none, .bool false]) w := by kernel_rfl
theorem assert_win (s : Nat) (w : World) : (Instr.typeAssert (ifWin s) 60 75 true).run Try.prog w = .ok (.tuple #[.pointer (some ⟨s, 0, none⟩), .bool true]) w := by kernel_rfl
/-- The blocks of a table of windows. -/
def Fw (s b : Nat) (k : Nat) : Prop := k = s ∨ k = b
theorem win_move {w w' : World} {s : Nat} {room size : Int} {b : Nat} {m : St} (h : Win.Own w s room size b m) (h1 : w'.heap[s]? = w.heap[s]?) (h2 : w'.heap[b]? = w.heap[b]?) : Win.Own w' s room size b m := by
  obtain ⟨D, ⟨es, clock, hb, F, hn, hD⟩, hA⟩ := h.map
  exact ⟨h1.trans h.row, ⟨D, ⟨es, clock, h2.trans hb, F, hn, hD⟩, hA⟩, h.sorted, h.wf, h.rng, h.fits⟩
theorem win_mv {w w' : World} {s : Nat} {room size : Int} {b : Nat} {m : St} (h : Win.Own w s room size b m) {G G' : Nat → Prop} (hm : Mv w w' G G') (h1 : ¬ G s) (h2 : ¬ G b) : Win.Own w' s room size b m :=
  win_move h (hm.keep s h.lt.1 h1) (hm.keep b h.lt.2.1 h2)
theorem win_below {w w' : World} {s : Nat} {room size : Int} {b : Nat} {m : St} (h : Win.Own w s room size b m) (hb : Below w.heap.size w w') : Win.Own w' s room size b m :=
  win_move h (hb.block s h.lt.1) (hb.block b h.lt.2.1)
theorem start_w64 {size time : Int} (hs : 1 ≤ size) : Win.W64 (startF size time) := by
  have h1 := Win.startF_le (time := time) hs
  have h2 : -1 ≤ startF size time := by
    unfold startF
    split
    · omega
    · rename_i h
      have e1 := Int.mul_ediv_add_emod time size
      have e2 : 0 ≤ size * (time / size) := Int.mul_nonneg (by omega) (Int.ediv_nonneg (by omega) (by omega))
      omega
  exact WalkArith.wf_i64 (by omega)
/-- A time that may be has a window. -/
theorem start_facts {n a : Int} (hn : 1 ≤ n) (h0 : 0 ≤ a) (h1 : a ≤ 1099511627776) : startF n a = n * (a / n) ∧ 0 ≤ startF n a ∧ startF n a ≤ a ∧ a < startF n a + n := by
  have e1 := Int.mul_ediv_add_emod a n
  have e2 : 0 ≤ n * (a / n) := Int.mul_nonneg (by omega) (Int.ediv_nonneg (by omega) (by omega))
  have e3 := Int.emod_nonneg a (show n ≠ 0 by omega)
  have e4 := Int.emod_lt_of_pos a (show 0 < n by omega)
  unfold startF
  rw [if_neg (by omega)]
  omega
set_option maxHeartbeats 4000000 in
theorem gathered_win {w0 w : World} {a s b : Nat} {kind n room size : Int} {x : Ex} {m : St} (h : AgV w0 w a kind n x (ifWin s)) (hO : Win.Own w s room size b m) (key val time : Int) (hk : Win.W64 key) (W : World) (hW : Below w.heap.size w W) :
    Calls Try.prog 24 #[.pointer (some ⟨a, 0, none⟩), recV key val time] W fun e w' => e = .returned (.int .i64 ((Win.look m (startF size time, key)).getD 0)) ∧ Below W.heap.size W w' := by
  unfold recV
  have hta := assert_win_kv s
  have htb := assert_win s
  have hB := below_alloc (Below.refl W.heap.size W) (.cells #[.int .i64 key, .int .i64 val, .int .i64 time] 36)
  obtain ⟨kA, kc, c0, c2, c3, c4, c5, c6, hx⟩ := ((h.below hW).below hB).cells
  have hg := Win.get_calls (win_below (win_below hO hW) hB) key time hk (start_w64 hO.rng.2.2.1)
  generalize (Win.look m (startF size time, key)).getD 0 = r at hg ⊢
  generalize (Win.look m (startF size time, key)).isSome = o at hg
  have HB := Lib.hid hB
  clear h hO hW c0 c2 c3 c4 c5 hx hB
  go_enter Try.func24, Try.ntmps24
  go_wp2_with ((with_reducible refine hg.mono ?_); rintro e w1 ⟨rfl, q, rfl⟩)
  go_ret
  exact ⟨rfl, pw_below_drewN HB.out _⟩
/-- A change of a window. -/
def winT (size f key v : Int) : T5 := (key, f, f + size, v, false)
set_option maxHeartbeats 4000000 in
theorem put_win {w0 w : World} {a s b : Nat} {kind n room size : Int} {x : Ex} {m : St} (h : AgV w0 w a kind n x (ifWin s)) (hO : Win.Own w s room size b m) (key val time rn : Int) (hk : Win.W64 key) (hr : Win.W64 rn) (h0 : 0 ≤ startF size time) (hf : Win.look m (startF size time, key) = none → (m.length : Int) < room) (V : World) (hV : Below w.heap.size w V) :
    Calls Try.prog 25 #[.pointer (some ⟨a, 0, none⟩), recV key val time, .int .i64 rn] V (PutQ V (Fw s b) kind (fun V' er chs w1 => er = 0 ∧ chs = [winT size (startF size time) key rn] ∧ Win.Own w1 s room size b (Win.put (startF size time, key) rn m) ∧ Mv V' w1 (Fw s b) (Fw s b))) := by
  unfold recV
  have hta := assert_win_kv s
  have htb := assert_win s
  have hB := below_alloc (Below.refl V.heap.size V) (.cells #[.int .i64 key, .int .i64 val, .int .i64 time] 36)
  have hAV := (h.below hV).below hB
  obtain ⟨kA, kc, c0, c2, c3, c4, c5, c6, hx⟩ := hAV.cells
  have hp := Win.put_ok (win_below (win_below hO hV) hB) key time rn hk hr (start_w64 hO.rng.2.2.1) h0 hf
  have HB := Lib.hid hB
  generalize startF size time = f at hp ⊢
  unfold Win.chg at hp
  clear h hV c0 c2 c3 c4 c5 hx hB hAV hO hf h0
  go_enter Try.func25, Try.ntmps25
  go_wp2_with fail
  refine hp.mono ?_
  rintro e w1 ⟨rfl, hO1, hg1⟩
  have HO1 := Lib.hid hO1; have HG1 := Lib.hid hg1
  clear hp hO1 hg1
  go_wp2_with fail
  go_ret2
  have hM2 : Mv V w1 (Fw s b) (Fw s b) := (Mv.of_below _ HB.out).trans (Mv.of_grown HG1.out (fun k e => .inr (Option.some.inj e).symm) fun k e => .inl e)
  have hB2 : Below w1.heap.size w1 (w1.alloc (.cells (encC (winT size f key rn)).toArray 50)) := below_alloc (Below.refl _ _) _
  have hB3 := below_then hB2 hB2.size (below_alloc (Below.refl _ _) (.cells (encC (winT size f key rn)).toArray 50))
  have hrow := own_lit5 (w1.alloc (.cells (encC (winT size f key rn)).toArray 50)) V.heap.size (winT size f key rn) (by have := hM2.size; simp; omega)
  have hsz : (w1.alloc (.cells (encC (winT size f key rn)).toArray 50)).heap.size = w1.heap.size + 1 := by simp
  rw [hsz] at hrow
  have hM3 := hM2.trans (Mv.of_below _ hB3)
  exact ⟨_, 0, [winT size f key rn], Fw s b, rfl, row5_one hrow, fun _ _ => by simp, hM3, rfl, rfl, win_below HO1.out hB3, hM3⟩
def OpenWin (w : World) (n : Int) (e : Ending) (w' : World) : Prop := ∃ s b, e = .returned (.tuple #[ifWin s, .int .i64 0]) ∧ Win.Own w' s 1024 n b [] ∧ Below w.heap.size w w' ∧ w.heap.size ≤ s ∧ w.heap.size ≤ b
set_option maxHeartbeats 4000000 in
theorem open_win {w : World} {n : Int} {x : Ex} {v : Value} (h : VxV w 7 n x v) (hn : 1 ≤ n ∧ n ≤ 1048576) : Calls Try.prog 21 #[v] w (OpenWin w n) := by
  obtain ⟨fA, fn, fc, kA, kc, rfl, hx⟩ := h.out
  have hb := below_alloc (Below.refl w.heap.size w) (.cells #[.int .i64 7, .slice fA fn fc, .int .i64 x.op, .int .i64 x.n, .slice kA x.kids.length kc, .int .i64 n] 33)
  have hn := Win.new_calls 1024 n ⟨by decide, by decide, hn.1, hn.2⟩ (w.alloc (.cells #[.int .i64 7, .slice fA fn fc, .int .i64 x.op, .int .i64 x.n, .slice kA x.kids.length kc, .int .i64 n] 33))
  have HB := Lib.hid hb
  clear h hx hb
  go_enter Try.func21, Try.ntmps21
  go_wp2_with ((with_reducible refine hn.mono ?_); rintro e w1 ⟨rfl, hO, hB1⟩)
  go_ret2
  have hsz : (w.alloc (.cells #[.int .i64 7, .slice fA fn fc, .int .i64 x.op, .int .i64 x.n, .slice kA x.kids.length kc, .int .i64 n] 33)).heap.size = w.heap.size + 1 := by simp
  rw [hsz] at hO
  exact ⟨w.heap.size + 1 + 1, w.heap.size + 1, rfl, hO, below_then HB.out HB.out.size hB1, by omega, by omega⟩
end Go.Proofs.Ytanhibhcmfmeeaa.Ag
