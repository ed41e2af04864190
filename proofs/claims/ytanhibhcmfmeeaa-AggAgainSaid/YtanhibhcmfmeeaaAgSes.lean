import Derived.Test.YtanhibhcmfmeeaaAgAll
import Derived.Test.YtanhibhcmfmeeaaSeB
/- A vertex over a table of sessions: what a record meets, what it puts; open. -/
namespace Go.Proofs.Ytanhibhcmfmeeaa.Ag
open Go.RowKit Go.Proofs.YtanhibhcmfmeeaaW.PrintWords Go.Proofs.YtanhibhcmfmeeaaW.PrintMore Go.Proofs.Ytanhibhcmfmeeaa.Cut Go.Proofs.Ytanhibhcmfmeeaa.Fr Go.Proofs.Ytanhibhcmfmeeaa.SlK Go.Proofs.Ytanhibhcmfmeeaa.Ex
open Go.Proofs.Ytanhibhcmfmeeaa.Se (L4 S4)
abbrev ifSe (s : Nat) : Value := .iface 76 (.pointer (some ⟨s, 0, none⟩))
theorem assert_se_kv (s : Nat) (w : World) : (Instr.typeAssert (ifSe s) 60 71 true).run Try.prog w = .ok (.tuple #[.pointer none, .bool false]) w := by kernel_rfl
theorem assert_se_win (s : Nat) (w : World) : (Instr.typeAssert (ifSe s) 60 75 true).run Try.prog w = .ok (.tuple #[.pointer none, .bool false]) w := by kernel_rfl
theorem assert_se (s : Nat) (w : World) : (Instr.typeAssert (ifSe s) 60 76 true).run Try.prog w = .ok (.tuple #[.pointer (some ⟨s, 0, none⟩), .bool true]) w := by kernel_rfl
/-- The sum of changes' values. -/
def valsV (l : List T5) : Int := l.foldl (fun a c => wrap64 (a + c.2.2.2.1)) 0
theorem valsV_snoc {l : List T5} {k : Nat} {y : T5} (h : l[k]? = some y) : valsV (l.take (k + 1)) = wrap64 (valsV (l.take k) + y.2.2.2.1) := by
  obtain ⟨hl, rfl⟩ := List.getElem?_eq_some_iff.1 h
  unfold valsV
  rw [List.take_succ_eq_append_getElem hl, List.foldl_append]; rfl
def gathS (gap key time : Int) (l : L4) : Int := valsV ((Se.hits gap key time l).map Se.chgT)
set_option maxRecDepth 100000 in
set_option maxHeartbeats 8000000 in
theorem gathered_se {w0 w : World} {a s B : Nat} {kind n room gap : Int} {x : Ex} {l : L4} {v : Value} (h : AgV w0 w a kind n x (ifSe s)) (hO : Se.Own w B s room gap l v) (key val time : Int) (ht : mayT time = true) (W : World) (hW : Below w.heap.size w W) :
    Calls Try.prog 24 #[.pointer (some ⟨a, 0, none⟩), recV key val time] W fun e w' => e = .returned (.int .i64 (gathS gap key time l)) ∧ Below W.heap.size W w' := by
  unfold recV gathS
  have hta := assert_se_kv s
  have htb := assert_se_win s
  have htc := assert_se s
  have hB := below_alloc (Below.refl W.heap.size W) (.cells #[.int .i64 key, .int .i64 val, .int .i64 time] 36)
  obtain ⟨kA, kc, c0, c2, c3, c4, c5, c6, hx⟩ := ((h.below hW).below hB).cells
  have hf := Se.find_calls ((hO.below hW).below hB) key time ht
  have hlen : ((Se.hits gap key time l).map Se.chgT).length ≤ 1024 := by
    have h1 := Se.hits_len gap key time l
    have h2 := hO.fits
    rw [List.length_map]; omega
  unfold Se.FindP at hf
  generalize (Se.hits gap key time l).map Se.chgT = cs at hf hlen ⊢
  have HB := Lib.hid hB
  clear h hO hW c0 c2 c3 c4 c5 hx hB ht
  go_enter Try.func24, Try.ntmps24
  go_wp2_with fail
  refine hf.mono ?_
  rintro e w1 ⟨u, rfl, hR, hB1⟩
  obtain ⟨A5, c5, rfl, hlc, hC⟩ := Kd.R_reads hR
  have HB1 := Lib.hid (below_then HB.out HB.out.size hB1)
  have HC := Lib.hid (show K5.C w1 A5 cs.length cs from hC)
  obtain ⟨m, hm⟩ : ∃ m, m = cs.length := ⟨_, rfl⟩
  have HM := Lib.hid hm
  rw [← hm] at hlen hlc ⊢
  clear hf hR hB1 hC hm
  go_wp2_with fail
  go_loopw [12, 53] (fun u12 u53 wx => ∃ k : Nat, k ≤ m ∧ u53 = .int .i64 k ∧ u12 = .int .i64 (valsV (cs.take k)) ∧ Below w1.heap.size w1 wx) (fun _ u53 _ => m - (intOf u53).toNat)
  case atStart => exact ⟨0, Nat.zero_le _, rfl, rfl, Below.refl _ _⟩
  case round =>
    obtain ⟨k, hk, rfl, rfl, hB2⟩ := hrel
    by_cases hlt : k < m
    · have hli : (k : Int) < (m : Int) := by omega
      obtain ⟨ad, ⟨y0, y1, y2, y3, y4⟩, rfl, hy, d0, d1, d2, d3, d4⟩ := at_C5 (Kd.C_below HC.out hB2) k (by rw [← HM.out]; exact hlt)
      have HS := Lib.hid (valsV_snoc hy)
      have HB2 := Lib.hid hB2
      simp only at d0 d1 d2 d3 d4
      clear hy hB2
      go_wp2_with fail
      go_roundw
      case rel => exact ⟨k + 1, by omega, by go_num, by rw [HS.out], below_alloc HB2.out _⟩
      case measure => simp [intOf]; omega
    · obtain rfl : k = m := by omega
      have htk : cs.take k = cs := by rw [HM.out]; exact List.take_length
      rw [htk]
      have HB2 := Lib.hid hB2
      clear hB2 htk
      go_wp2_with fail
      go_ret
      exact ⟨rfl, below_then HB1.out HB1.out.size HB2.out⟩
set_option maxHeartbeats 4000000 in
theorem put_se {w0 w : World} {a s B : Nat} {kind n room gap : Int} {x : Ex} {l : L4} {v : Value} (h : AgV w0 w a kind n x (ifSe s)) (hO : Se.Own w B s room gap l v) (key val time rn : Int) (ht : mayT time = true) (hf : Se.hits gap key time l = [] → (l.length : Int) < room) (V : World) (hV : Below w.heap.size w V) :
    Calls Try.prog 25 #[.pointer (some ⟨a, 0, none⟩), recV key val time, .int .i64 rn] V (PutQ V (Se.F s v) kind (fun V' er chs w1 => er = 0 ∧ chs = Se.outT gap key time rn l ∧ ∃ v', Se.Own w1 B s room gap (Se.putL gap key time rn l) v' ∧ Mv V' w1 (Se.F s v) (Se.F s v'))) := by
  unfold recV
  have hta := assert_se_kv s
  have htb := assert_se_win s
  have htc := assert_se s
  have hB := below_alloc (Below.refl V.heap.size V) (.cells #[.int .i64 key, .int .i64 val, .int .i64 time] 36)
  obtain ⟨kA, kc, c0, c2, c3, c4, c5, c6, hx⟩ := ((h.below hV).below hB).cells
  have hp := Se.put_ok ((hO.below hV).below hB) key time rn ht hf
  have HB := Lib.hid hB
  clear h hV c0 c2 c3 c4 c5 hx hB hO hf ht
  go_enter Try.func25, Try.ntmps25
  go_wp2_with fail
  refine hp.mono ?_
  rintro e w1 ⟨u, v', rfl, hR, hO1, hM1⟩
  have HO1 := Lib.hid hO1; have HM1 := Lib.hid hM1; have HR := Lib.hid hR
  clear hp hO1 hM1 hR
  go_wp2_with fail
  go_ret2
  have hM2 : Mv V w1 (Se.F s v) (Se.F s v') := (Mv.of_below _ HB.out).trans HM1.out
  exact ⟨u, 0, Se.outT gap key time rn l, Se.F s v', rfl, Kd.R_lower HR.out HB.out.size, fun _ _ => by unfold Se.outT; simp, hM2, rfl, rfl, v', HO1.out, hM2⟩
def OpenSe (w : World) (n : Int) (B : Nat) (e : Ending) (w' : World) : Prop := ∃ s, e = .returned (.tuple #[ifSe s, .int .i64 0]) ∧ Se.Own w' B s 1024 n [] (.slice none 0 0) ∧ Below w.heap.size w w' ∧ w.heap.size ≤ s
set_option maxHeartbeats 4000000 in
theorem open_se {w : World} {n : Int} {x : Ex} {v : Value} (h : VxV w 8 n x v) (hn : 1 ≤ n ∧ n ≤ 1048576) (B : Nat) (hB : B ≤ w.heap.size) : Calls Try.prog 21 #[v] w (OpenSe w n B) := by
  obtain ⟨fA, fn, fc, kA, kc, rfl, hx⟩ := h.out
  have hb := below_alloc (Below.refl w.heap.size w) (.cells #[.int .i64 8, .slice fA fn fc, .int .i64 x.op, .int .i64 x.n, .slice kA x.kids.length kc, .int .i64 n] 33)
  have hn := Se.new_calls 1024 n ⟨by decide, by decide, hn.1, hn.2⟩ B _ (Nat.le_trans hB hb.size)
  have HB := Lib.hid hb
  clear h hx hb hB
  go_enter Try.func21, Try.ntmps21
  go_wp2_with ((with_reducible refine hn.mono ?_); rintro e w1 ⟨rfl, hO, hB1⟩)
  go_ret2
  have hsz : (w.alloc (.cells #[.int .i64 8, .slice fA fn fc, .int .i64 x.op, .int .i64 x.n, .slice kA x.kids.length kc, .int .i64 n] 33)).heap.size = w.heap.size + 1 := by simp
  exact ⟨w.heap.size + 1, rfl, by rw [← hsz]; exact hO, below_then HB.out HB.out.size hB1, by omega⟩
end Go.Proofs.Ytanhibhcmfmeeaa.Ag
/- A vertex with a table of sessions: New, Apply. -/
namespace Go.Proofs.Ytanhibhcmfmeeaa.Ag
open Go.RowKit Go.Proofs.YtanhibhcmfmeeaaW.PrintWords Go.Proofs.YtanhibhcmfmeeaaW.PrintMore Go.Proofs.Ytanhibhcmfmeeaa.Cut Go.Proofs.Ytanhibhcmfmeeaa.Fr Go.Proofs.Ytanhibhcmfmeeaa.SlK Go.Proofs.Ytanhibhcmfmeeaa.Ex
open Go.Proofs.Ytanhibhcmfmeeaa.Se (L4 S4)
def NewSe (w : World) (n : Int) (x : Ex) (v : Value) (e : Ending) (w' : World) : Prop :=
  ∃ a s, e = .returned (.tuple #[.pointer (some ⟨a, 0, none⟩), .int .i64 0]) ∧ AgV w w' a 8 n x (ifSe s) ∧ Se.Own w' w.heap.size s 1024 n [] (.slice none 0 0) ∧ s < a ∧ w.heap.size ≤ a ∧ Below w.heap.size w w' ∧ ∃ fA fn fc kA kc, v = .agg #[.int .i64 8, .slice fA fn fc, .int .i64 x.op, .int .i64 x.n, .slice kA x.kids.length kc, .int .i64 n] ∧ w'.heap[a]? = some (.cells #[.int .i64 8, .slice fA fn fc, .int .i64 x.op, .int .i64 x.n, .slice kA x.kids.length kc, .int .i64 n, ifSe s] 64 (0, 0))
set_option maxHeartbeats 4000000 in
theorem new_se {w : World} {n : Int} {x : Ex} {v : Value} (h : VxV w 8 n x v) (hn : 1 ≤ n ∧ n ≤ 1048576) (hm : mayE x = true) : Calls Try.prog 10 #[v] w (NewSe w n x v) := by
  obtain ⟨fA, fn, fc, kA, kc, rfl, hx⟩ := h.out
  obtain ⟨W, hW⟩ : ∃ W, W = w.alloc (.cells #[.int .i64 8, .slice fA fn fc, .int .i64 x.op, .int .i64 x.n, .slice kA x.kids.length kc, .int .i64 n] 33) := ⟨_, rfl⟩
  have hb : Below w.heap.size w W := by rw [hW]; exact below_alloc (Below.refl w.heap.size w) _
  have hr : W.heap[w.heap.size]? = some (.cells #[.int .i64 8, .slice fA fn fc, .int .i64 x.op, .int .i64 x.n, .slice kA x.kids.length kc, .int .i64 n] 33 (0, 0)) := by rw [hW]; exact (Go.MapKept.heap_alloc w _).1
  have hM := May_calls x _ W (hx.below hb)
  rw [hm] at hM
  have c0 : W.cell? ⟨w.heap.size, 0, none⟩ = some (.int .i64 8) := (blk_cell hr 0).trans rfl
  have c1 : W.cell? ⟨w.heap.size, 1, none⟩ = some (.slice fA fn fc) := (blk_cell hr 1).trans rfl
  have c2 : W.cell? ⟨w.heap.size, 2, none⟩ = some (.int .i64 x.op) := (blk_cell hr 2).trans rfl
  have c3 : W.cell? ⟨w.heap.size, 3, none⟩ = some (.int .i64 x.n) := (blk_cell hr 3).trans rfl
  have c4 : W.cell? ⟨w.heap.size, 4, none⟩ = some (.slice kA x.kids.length kc) := (blk_cell hr 4).trans rfl
  have c5 : W.cell? ⟨w.heap.size, 5, none⟩ = some (.int .i64 n) := (blk_cell hr 5).trans rfl
  have ho := fun V (hV : Below w.heap.size w V) => open_se (h.below hV) hn w.heap.size hV.size
  have HW := Lib.hid hW; have HB := Lib.hid hb; have HO := Lib.hid ho; have HX := Lib.hid hx
  have hw0 : w.heap.size < W.heap.size := (Array.getElem?_eq_some_iff.1 hr).1
  clear h hn hm hW hb ho hr hx
  go_enter Try.func10, Try.ntmps10
  go_upto_region 1 with fail
  rw [← HW.out]
  go_wp2_with fail
  refine hM.mono ?_
  rintro e w1 ⟨rfl, hB1⟩
  obtain ⟨k0, k1, k2, k3, k4, k5⟩ : w1.cell? ⟨w.heap.size, 0, none⟩ = some (.int .i64 8) ∧ w1.cell? ⟨w.heap.size, 1, none⟩ = some (.slice fA fn fc) ∧ w1.cell? ⟨w.heap.size, 2, none⟩ = some (.int .i64 x.op) ∧ w1.cell? ⟨w.heap.size, 3, none⟩ = some (.int .i64 x.n) ∧ w1.cell? ⟨w.heap.size, 4, none⟩ = some (.slice kA x.kids.length kc) ∧ w1.cell? ⟨w.heap.size, 5, none⟩ = some (.int .i64 n) := ⟨keepB hB1 c0, keepB hB1 c1, keepB hB1 c2, keepB hB1 c3, keepB hB1 c4, keepB hB1 c5⟩
  have hB2 := below_then HB.out HB.out.size hB1
  have ho := HO.out w1 hB2
  have HB2 := Lib.hid hB2
  clear c0 c1 c2 c3 c4 c5 hM hB1 hB2
  go_wp2_with fail
  refine ho.mono ?_
  rintro e w2 ⟨s, rfl, hK, hB3, hs⟩
  obtain ⟨c0, c1, c2, c3, c4, c5⟩ : w2.cell? ⟨w.heap.size, 0, none⟩ = some (.int .i64 8) ∧ w2.cell? ⟨w.heap.size, 1, none⟩ = some (.slice fA fn fc) ∧ w2.cell? ⟨w.heap.size, 2, none⟩ = some (.int .i64 x.op) ∧ w2.cell? ⟨w.heap.size, 3, none⟩ = some (.int .i64 x.n) ∧ w2.cell? ⟨w.heap.size, 4, none⟩ = some (.slice kA x.kids.length kc) ∧ w2.cell? ⟨w.heap.size, 5, none⟩ = some (.int .i64 n) := ⟨keepB hB3 k0, keepB hB3 k1, keepB hB3 k2, keepB hB3 k3, keepB hB3 k4, keepB hB3 k5⟩
  have hB4 := below_then HB2.out HB2.out.size hB3
  have HK := Lib.hid hK; have HB4 := Lib.hid hB4; have HS := Lib.hid hs
  clear ho hK hB3 hB4 hs k0 k1 k2 k3 k4 k5 HB2 HO HB HW
  go_wp2_with fail
  go_ret2
  have hB5 : Below w2.heap.size w2 (w2.alloc (.cells #[.int .i64 8, .slice fA fn fc, .int .i64 x.op, .int .i64 x.n, .slice kA x.kids.length kc, .int .i64 n, ifSe s] 64)) := below_alloc (Below.refl _ _) _
  exact ⟨_, s, rfl, ⟨below_then HB4.out HB4.out.size hB5, HB4.out.size, fA, fn, fc, kA, kc, (Go.MapKept.heap_alloc w2 _).1, HX.out⟩, HK.out.below hB5, (HK.out.lt s (.inl rfl)).2, HB4.out.size, below_then HB4.out HB4.out.size hB5, fA, fn, fc, kA, kc, rfl, (Go.MapKept.heap_alloc w2 _).1⟩
theorem last_out (gap key time val : Int) (l : L4) : lastFrom (Se.outT gap key time val l) = Se.firstF gap key time l := by
  unfold lastFrom Se.outT
  rw [List.getLast?_append]
  rfl
/-- A vertex with a table: at block a, the table at block s, its row v. -/
structure AgS (w0 w : World) (a s : Nat) (n : Int) (x : Ex) (l : L4) (v : Value) : Prop where
  vx : AgV w0 w a 8 n x (ifSe s)
  tb : Se.Own w w0.heap.size s 1024 n l v
theorem AgS.below {w0 w w' : World} {a s : Nat} {n : Int} {x : Ex} {l : L4} {v : Value} (h : AgS w0 w a s n x l v) (hb : Below w.heap.size w w') : AgS w0 w' a s n x l v := ⟨h.vx.below hb, h.tb.below hb⟩
theorem AgS.ne {w0 w : World} {a s : Nat} {n : Int} {x : Ex} {l : L4} {v : Value} (h : AgS w0 w a s n x l v) : ¬ Se.F s v a := by
  obtain ⟨_, _, _, _, _, hr, _⟩ := h.vx.row
  rintro (e | e)
  · have := h.tb.row
    rw [← e, hr] at this
    injection this with this
    injection this with _ this
    exact absurd this (by decide)
  · obtain ⟨cells, hc⟩ := own_typed h.tb.ses a e.symm
    rw [hr] at hc
    injection hc with hc
    injection hc with _ hc
    exact absurd hc (by decide)
/-- The world as it was up to a block. -/
def trunc (w : World) (N : Nat) : World := { w with heap := w.heap.extract 0 N }
theorem trunc_size (w : World) {N : Nat} (h : N ≤ w.heap.size) : (trunc w N).heap.size = N := by simp [trunc]; omega
theorem trunc_get (w : World) {N k : Nat} (h : k < N) : (trunc w N).heap[k]? = w.heap[k]? := by
  by_cases hk : k < w.heap.size
  · simp [trunc, Array.getElem?_extract]; omega
  · simp [trunc, Array.getElem?_extract]; omega
theorem trunc_below (w : World) {N : Nat} (h : N ≤ w.heap.size) : Below (trunc w N).heap.size (trunc w N) w := by
  rw [trunc_size w h]
  exact ⟨rfl, rfl, rfl, by rw [trunc_size w h]; exact h, fun k hk => (trunc_get w hk).symm⟩
theorem own_down {w : World} {B B' s : Nat} {room gap : Int} {l : L4} {v : Value} (h : Se.Own w B s room gap l v) (hb : B' ≤ B) : Se.Own w B' s room gap l v := ⟨h.row, Se.own_lower h.ses hb, h.sorted, h.wf, h.rng, h.fits, Nat.le_trans hb h.base⟩
/-- The usual vertex over sessions, told anew: its row, and the block of its operands. -/
theorem AgS.usual {w : World} {a b s B : Nat} {n : Int} {l : L4} {v : Value} (hr : w.heap[a]? = some (.cells #[.int .i64 8, .slice none 0 0, .int .i64 6, .int .i64 0, .slice (some ⟨b, 0, none⟩) 2 2, .int .i64 n, ifSe s] 64 (0, 0))) (hb : w.heap[b]? = some sumRow) (hO : Se.Own w B s 1024 n l v) (hB : b < B) (ha : b < a) :
    AgS (trunc w (b + 1)) w a s n sumE l v := by
  have hlt : b + 1 ≤ w.heap.size := (Array.getElem?_eq_some_iff.1 hb).1
  have hlow := trunc_below w hlt
  have hsz := trunc_size w hlt
  refine ⟨⟨hlow, by rw [hsz]; omega, none, 0, 0, some ⟨b, 0, none⟩, 2, hr, sumV ((trunc_get w (Nat.lt_succ_self b)).trans hb)⟩, ?_⟩
  rw [hsz]
  exact own_down hO hB
/-- Blocks of other types are none of its table's. -/
theorem AgS.far {w0 w : World} {a s : Nat} {n : Int} {x : Ex} {l : L4} {v : Value} (h : AgS w0 w a s n x l v) {k : Nat} {cs : Array Value} {t : TypeId} {fr : Nat × Nat} (hk : w.heap[k]? = some (.cells cs t fr)) (h1 : t ≠ 115) (h2 : t ≠ 113) : ¬ Se.F s v k := by
  rintro (e | e)
  · have := h.tb.row
    rw [← e, hk] at this
    injection this with this
    injection this with _ this
    exact h1 this
  · obtain ⟨cells, hc⟩ := own_typed h.tb.ses k e.symm
    rw [hk] at hc
    injection hc with hc
    injection hc with _ hc
    exact h2 hc
def ApS (w0 w : World) (a s : Nat) (n : Int) (x : Ex) (l : L4) (v : Value) (key r time : Int) (e : Ending) (w' : World) : Prop :=
  ∃ sl v', e = .returned (.tuple #[recV key r (Se.firstF n key time l), sl, .int .i64 0]) ∧ Row5 w' w.heap.size sl (Se.outT n key time r l) ∧ AgS w0 w' a s n x (Se.putL n key time r l) v' ∧ Mv w w' (Se.F s v) (Se.F s v')
theorem apply_se {w0 w : World} {a s : Nat} {n : Int} {x : Ex} {l : L4} {v : Value} (h : AgS w0 w a s n x l v) (key val time r : Int) (ht : mayT time = true) (he : evalF ⟨key, val, time, gathS n key time l⟩ x = (r, 0)) (hf : Se.hits n key time l = [] → l.length < 1024) :
    Calls Try.prog 12 #[.pointer (some ⟨a, 0, none⟩), recV key val time] w (ApS w0 w a s n x l v key r time) := by
  have hne := h.ne
  refine (apply_put h.vx key val time _ r ht (fun W hW => gathered_se h.vx h.tb key val time ht W hW) he (Se.F s v) (fun k hk => ⟨(h.tb.lt k hk).2, fun e => hne (e ▸ hk)⟩) _ (fun V hV => put_se h.vx h.tb key val time r ht (fun hl => by have := hf hl; omega) V hV)).mono ?_
  rintro e w' ⟨V, w1, sl, er, chs, Ft', hV, hVs, hR5, _, ⟨rfl, rfl, v', hO, hM⟩, hM2, rfl⟩
  have hsz : w.heap.size ≤ V.heap.size := by omega
  have hF' : ∀ k, Se.F s v' k → k ≠ w.heap.size ∧ k ≠ w.heap.size + 1 := fun k hk => by
    rcases hM.new k hk with e | e
    · have := (h.tb.lt k e).2; exact ⟨by omega, by omega⟩
    · exact ⟨by omega, by omega⟩
  have hMw : Mv w w' (Se.F s v) (Se.F s v') := by
    have h1 := (Mv.of_below (Se.F s v) hV).trans hM
    refine ⟨hM2.os.trans h1.os, hM2.tape.trans h1.tape, hM2.output.trans h1.output, Nat.le_trans h1.size hM2.size, fun k hk hs => ?_, h1.new⟩
    exact (hM2.keep k (Nat.lt_of_lt_of_le hk h1.size) (by omega)).trans (h1.keep k hk hs)
  refine ⟨sl, v', by unfold resA; rw [if_pos rfl, if_neg (by decide), last_out], ?_, ⟨h.vx.mv hMw (fun k hk => (h.tb.lt k hk).1) hne, hO.kept fun k hk => hM2.keep k (hO.lt k hk).2 (by have := hF' k hk; omega)⟩, hMw⟩
  exact Kd.R_lower (Kd.R_mono (Kd.R_move (Kd.R_bound hR5) fun k hk => hM2.keep k (by have := hk.2.2.1; omega) (by have := hk.2.1; omega)) fun _ _ => trivial) hsz
end Go.Proofs.Ytanhibhcmfmeeaa.Ag
