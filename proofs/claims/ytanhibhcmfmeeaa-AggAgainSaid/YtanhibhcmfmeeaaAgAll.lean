import Derived.Test.YtanhibhcmfmeeaaKvAll
import Derived.Test.YtanhibhcmfmeeaaExAll
import Derived.Deep.RegionHeld3
import Derived.Test.YtanhibhcmfmeeaaPAggNobodyx2
/- A vertex's store in memory; Apply, whatever the table is. -/
namespace Go.Proofs.Ytanhibhcmfmeeaa.Ag
open Go.RowKit Go.Proofs.YtanhibhcmfmeeaaW.PrintWords Go.Proofs.YtanhibhcmfmeeaaW.PrintMore Go.Proofs.Ytanhibhcmfmeeaa.Cut Go.Proofs.Ytanhibhcmfmeeaa.Fr Go.Proofs.Ytanhibhcmfmeeaa.SlK Go.Proofs.Ytanhibhcmfmeeaa.Ex
abbrev T5 := Int × Int × Int × Int × Bool
def encC (x : T5) : List Value := [.int .i64 x.1, .int .i64 x.2.1, .int .i64 x.2.2.1, .int .i64 x.2.2.2.1, .bool x.2.2.2.2]
abbrev K5 : Kd T5 := Kd.pair (Kd.int .i64) (Kd.pair (Kd.int .i64) (Kd.pair (Kd.int .i64) (Kd.pair (Kd.int .i64) Kd.bool)))
theorem K5_M (w : World) (base : Nat) (ok : Nat → Prop) (x : T5) : K5.M w base ok x (encC x) := ⟨[.int .i64 x.1], _, rfl, rfl, ⟨[.int .i64 x.2.1], _, rfl, rfl, ⟨[.int .i64 x.2.2.1], _, rfl, rfl, ⟨[.int .i64 x.2.2.2.1], _, rfl, rfl, rfl⟩⟩⟩⟩
/-- Changes: a row that was made behind a world. -/
abbrev Row5 (w : World) (base : Nat) (v : Value) (l : List T5) : Prop := K5.R 50 w base (fun _ => True) v l
/-- A vertex with an interface of its table lies at block a; its expression lay in w0. -/
structure AgV (w0 w : World) (a : Nat) (kind n : Int) (x : Ex) (ifc : Value) : Prop where
  low : Below w0.heap.size w0 w
  base : w0.heap.size ≤ a
  row : ∃ fA fn fc kA kc, w.heap[a]? = some (.cells #[.int .i64 kind, .slice fA fn fc, .int .i64 x.op, .int .i64 x.n, .slice kA x.kids.length kc, .int .i64 n, ifc] 64 (0, 0)) ∧ ExV w0 x (.agg #[.int .i64 x.op, .int .i64 x.n, .slice kA x.kids.length kc])
theorem AgV.lt {w0 w : World} {a : Nat} {kind n : Int} {x : Ex} {ifc : Value} (h : AgV w0 w a kind n x ifc) : a < w.heap.size := by
  obtain ⟨_, _, _, _, _, hr, _⟩ := h.row
  exact (Array.getElem?_eq_some_iff.1 hr).1
theorem AgV.mv {w0 w w' : World} {a : Nat} {kind n : Int} {x : Ex} {ifc : Value} (h : AgV w0 w a kind n x ifc) {G G' : Nat → Prop} (hm : Mv w w' G G') (hG : ∀ k, G k → w0.heap.size ≤ k) (ha : ¬ G a) : AgV w0 w' a kind n x ifc := by
  obtain ⟨fA, fn, fc, kA, kc, hr, hx⟩ := h.row
  exact ⟨hm.below h.low h.low.size hG, h.base, fA, fn, fc, kA, kc, (hm.keep a h.lt ha).trans hr, hx⟩
theorem AgV.below {w0 w w' : World} {a : Nat} {kind n : Int} {x : Ex} {ifc : Value} (h : AgV w0 w a kind n x ifc) (hb : Below w.heap.size w w') : AgV w0 w' a kind n x ifc :=
  h.mv (Mv.of_below (fun _ => False) hb) (fun _ e => e.elim) (fun e => e)
def mayT (time : Int) : Bool := decide (0 ≤ time ∧ time ≤ 1099511627776)
set_option maxHeartbeats 1000000 in
theorem mayT_calls (time : Int) (w : World) : Calls Try.prog 22 #[.int .i64 time] w fun e w' => e = .returned (.bool (mayT time)) ∧ w' = w := by
  unfold mayT
  by_cases h1 : 0 ≤ time
  · by_cases h2 : time ≤ 1099511627776
    · rw [decide_eq_true (And.intro h1 h2)]
      go_enter Try.func22, Try.ntmps22
      go_wp2
      go_ret
      exact ⟨rfl, rfl⟩
    · rw [decide_eq_false (fun e => h2 e.2)]
      go_enter Try.func22, Try.ntmps22
      go_wp2
      go_ret
      exact ⟨rfl, rfl⟩
  · rw [decide_eq_false (fun e => h1 e.1)]
    go_enter Try.func22, Try.ntmps22
    go_wp2
    go_ret
    exact ⟨rfl, rfl⟩
abbrev zrec : Obj := .cells #[.int .i64 0, .int .i64 0, .int .i64 0] 36
def recV (key val time : Int) : Value := .agg #[.int .i64 key, .int .i64 val, .int .i64 time]
set_option maxHeartbeats 4000000 in
/-- A nil store. -/
theorem apply_nil (key val time : Int) (w : World) : Calls Try.prog 12 #[.pointer none, recV key val time] w fun e w' => e = .returned (.tuple #[recV 0 0 0, .slice none 0 0, .int .i64 3]) ∧ Below w.heap.size w w' := by
  unfold recV
  have hrow : ((w.alloc (.cells #[.int .i64 key, .int .i64 val, .int .i64 time] 36)).alloc zrec).heap[w.heap.size + 1]? = some zrec := by
    simpa using (Go.MapKept.heap_alloc (w.alloc (.cells #[.int .i64 key, .int .i64 val, .int .i64 time] 36)) zrec).1
  go_enter Try.func12, Try.ntmps12
  go_wp2
  refine bodyPost_ret (results_ctt rfl _ _ (w.heap.size + 1) 36 #[.int .i64 0, .int .i64 0, .int .i64 0] (0, 0) _ rfl ?hp Try.underlying36 rfl (by kernel_rfl)) rfl ?_
  case hp =>
    repeat (with_reducible first | exact hrow | refine blk_drewN ?_ _ | refine blk_drew ?_ | refine blk_put (cs := #[.int .i64 0, .int .i64 0, .int .i64 0]) ?_ _ _ rfl)
  · refine ⟨rfl, ?_⟩
    repeat (with_reducible first | exact Below.refl _ _ | refine Kv.below_set ?_ (by simp) _ _ | refine pw_below_drewN ?_ _ | refine below_alloc ?_ _)
end Go.Proofs.Ytanhibhcmfmeeaa.Ag
/- The walk of Apply. -/
namespace Go.Proofs.Ytanhibhcmfmeeaa.Ag
open Go.RowKit Go.Proofs.YtanhibhcmfmeeaaW.PrintWords Go.Proofs.YtanhibhcmfmeeaaW.PrintMore Go.Proofs.Ytanhibhcmfmeeaa.Cut Go.Proofs.Ytanhibhcmfmeeaa.Fr Go.Proofs.Ytanhibhcmfmeeaa.SlK Go.Proofs.Ytanhibhcmfmeeaa.Ex
/-- The two boxes of Apply: the record, the answer. -/
theorem two_boxes (w : World) (key val time : Int) : ∃ W, W = (w.alloc (.cells #[.int .i64 key, .int .i64 val, .int .i64 time] 36)).alloc zrec ∧ Below w.heap.size w W ∧ W.heap.size = w.heap.size + 2 ∧ W.heap[w.heap.size]? = some (.cells #[.int .i64 key, .int .i64 val, .int .i64 time] 36 (0, 0)) ∧ W.heap[w.heap.size + 1]? = some zrec := by
  refine ⟨_, rfl, below_alloc (below_alloc (Below.refl _ _) _) _, by simp, ?_, ?_⟩
  · rw [(Go.MapKept.heap_alloc _ _).2 _ (by simp), (Go.MapKept.heap_alloc w _).1]
  · simpa using (Go.MapKept.heap_alloc (w.alloc (.cells #[.int .i64 key, .int .i64 val, .int .i64 time] 36)) zrec).1
/-- The cells of a vertex. -/
theorem AgV.cells {w0 w : World} {a : Nat} {kind n : Int} {x : Ex} {ifc : Value} (h : AgV w0 w a kind n x ifc) : ∃ kA kc, w.cell? ⟨a, 0, none⟩ = some (.int .i64 kind) ∧ w.cell? ⟨a, 2, none⟩ = some (.int .i64 x.op) ∧ w.cell? ⟨a, 3, none⟩ = some (.int .i64 x.n) ∧ w.cell? ⟨a, 4, none⟩ = some (.slice kA x.kids.length kc) ∧ w.cell? ⟨a, 5, none⟩ = some (.int .i64 n) ∧ w.cell? ⟨a, 6, none⟩ = some ifc ∧ ExV w x (.agg #[.int .i64 x.op, .int .i64 x.n, .slice kA x.kids.length kc]) := by
  obtain ⟨fA, fn, fc, kA, kc, hr, hx⟩ := h.row
  exact ⟨kA, kc, (blk_cell hr 0).trans rfl, (blk_cell hr 2).trans rfl, (blk_cell hr 3).trans rfl, (blk_cell hr 4).trans rfl, (blk_cell hr 5).trans rfl, (blk_cell hr 6).trans rfl, hx.below h.low⟩
set_option maxHeartbeats 4000000 in
theorem apply_range {w0 w : World} {a : Nat} {kind n : Int} {x : Ex} {tt : TypeId} {p : Addr} (h : AgV w0 w a kind n x (.iface tt (.pointer (some p)))) (key val time : Int) (ht : mayT time = false) :
    Calls Try.prog 12 #[.pointer (some ⟨a, 0, none⟩), recV key val time] w fun e w' => e = .returned (.tuple #[recV 0 0 0, .slice none 0 0, .int .i64 2]) ∧ Below w.heap.size w w' := by
  unfold recV
  obtain ⟨W, hW, hB, hs, h1, h2⟩ := two_boxes w key val time
  obtain ⟨kA, kc, c0, c2, c3, c4, c5, c6, _⟩ := (h.below hB).cells
  have hm := mayT_calls time W
  rw [ht] at hm
  have d2 : W.cell? ⟨w.heap.size, 2, none⟩ = some (.int .i64 time) := (blk_cell h1 2).trans rfl
  have HW := Lib.hid hW
  have z0 : W.cell? ⟨w.heap.size + 1, 0, none⟩ = some (.int .i64 0) := (blk_cell h2 0).trans rfl
  have z1 : W.cell? ⟨w.heap.size + 1, 1, none⟩ = some (.int .i64 0) := (blk_cell h2 1).trans rfl
  have z2 : W.cell? ⟨w.heap.size + 1, 2, none⟩ = some (.int .i64 0) := (blk_cell h2 2).trans rfl
  have y0 := blk_frozen h2 0
  have y1 := blk_frozen h2 1
  have y2 := blk_frozen h2 2
  have H2 := Lib.hid h2; have HB := Lib.hid hB
  have hal : a ≠ w.heap.size := by have := h.lt; omega
  clear h hW hB h1 h2 ht c2 c3 c4 c5 c0
  go_enter Try.func12, Try.ntmps12
  go_upto_region 1 with fail
  rw [← HW.out]
  go_wp2_with ((with_reducible refine hm.mono ?_); rintro e w1 ⟨rfl, rfl⟩)
  refine bodyPost_ret (results_ctt rfl _ _ (w.heap.size + 1) 36 #[.int .i64 0, .int .i64 0, .int .i64 0] (0, 0) _ rfl ?hp Try.underlying36 rfl (by kernel_rfl)) rfl ?_
  case hp =>
    repeat (with_reducible first | exact H2.out | refine blk_drewN ?_ _ | refine blk_drew ?_ | refine blk_put (cs := #[.int .i64 0, .int .i64 0, .int .i64 0]) ?_ _ _ rfl)
  · refine ⟨rfl, ?_⟩
    repeat (with_reducible first | exact HB.out | refine Kv.below_set ?_ (by simp) _ _ | refine pw_below_drewN ?_ _ | refine below_alloc ?_ _)
theorem keepB {W V : World} {b o : Nat} {u : Value} (hb : Below W.heap.size W V) (h : W.cell? ⟨b, o, none⟩ = some u) : V.cell? ⟨b, o, none⟩ = some u := pw_cell_below hb h
set_option maxHeartbeats 8000000 in
theorem apply_err {w0 w : World} {a : Nat} {kind n : Int} {x : Ex} {tt : TypeId} {p : Addr} (h : AgV w0 w a kind n x (.iface tt (.pointer (some p)))) (key val time g : Int) (ht : mayT time = true)
    (hg : ∀ W, Below w.heap.size w W → Calls Try.prog 24 #[.pointer (some ⟨a, 0, none⟩), recV key val time] W fun e w' => e = .returned (.int .i64 g) ∧ Below W.heap.size W w') (er : Int) (he : (evalF ⟨key, val, time, g⟩ x).2 = er) (hne : er ≠ 0) :
    Calls Try.prog 12 #[.pointer (some ⟨a, 0, none⟩), recV key val time] w fun e w' => e = .returned (.tuple #[recV 0 0 0, .slice none 0 0, .int .i64 er]) ∧ Below w.heap.size w w' := by
  unfold recV at hg ⊢
  obtain ⟨W, hW, hB, hs, h1, h2⟩ := two_boxes w key val time
  obtain ⟨kA, kc, c0, c2, c3, c4, c5, c6, hx⟩ := (h.below hB).cells
  have hm := mayT_calls time W
  rw [ht] at hm
  have d0 : W.cell? ⟨w.heap.size, 0, none⟩ = some (.int .i64 key) := (blk_cell h1 0).trans rfl
  have d1 : W.cell? ⟨w.heap.size, 1, none⟩ = some (.int .i64 val) := (blk_cell h1 1).trans rfl
  have d2 : W.cell? ⟨w.heap.size, 2, none⟩ = some (.int .i64 time) := (blk_cell h1 2).trans rfl
  have hgd := hg W.drew (below_drew hB)
  have hev := fun V (hV : Below W.drew.heap.size W.drew V) => eval_calls ⟨key, val, time, g⟩ x _ V (hx.below (below_then (below_drew (Below.refl W.heap.size W)) (Nat.le_refl _) hV))
  generalize hr : evalF ⟨key, val, time, g⟩ x = r at hev he
  obtain ⟨rn, re⟩ := r
  simp only at he hev
  subst he
  have HW := Lib.hid hW
  have H2 := Lib.hid h2; have HB := Lib.hid hB; have HE := Lib.hid hev
  have hal : a ≠ w.heap.size := by have := h.lt; omega
  have hb1 : (re == 0) = false := beq_eq_false_iff_ne.2 hne
  clear h hW hB h2 ht c0 c5 hr hev hg hx h1
  go_enter Try.func12, Try.ntmps12
  go_upto_region 1 with fail
  rw [← HW.out]
  go_upto_region 5 with ((with_reducible refine hm.mono ?_); rintro e w1 ⟨rfl, rfl⟩)
  rename World => W
  go_cut [7, 8] (fun u7 u8 wx => u7 = .int .i64 rn ∧ u8 = .int .i64 re ∧ Below W.heap.size W wx)
  case first =>
    go_region_held3 (fun V => V.cell? ⟨a, 2, none⟩ = some (.int .i64 x.op) ∧ V.cell? ⟨a, 3, none⟩ = some (.int .i64 x.n) ∧ V.cell? ⟨a, 4, none⟩ = some (.slice kA x.kids.length kc) ∧ V.cell? ⟨w.heap.size, 0, none⟩ = some (.int .i64 key) ∧ V.cell? ⟨w.heap.size, 1, none⟩ = some (.int .i64 val) ∧ V.cell? ⟨w.heap.size, 2, none⟩ = some (.int .i64 time)) (go_keep)
      (first
      | (go_at_call 24; (with_reducible refine hgd.mono ?_); rintro e w4 ⟨rfl, hB4⟩; have HB4 := Lib.hid hB4; have k1 := keepB hB4 c2; have k2 := keepB hB4 c3; have k3 := keepB hB4 c4; have k4 := keepB hB4 d0; have k5 := keepB hB4 d1; have k6 := keepB hB4 d2; clear hB4)
      | (go_at_call 23; (with_reducible refine (HE.out _ HB4.out).mono ?_); rintro e w5 ⟨rfl, hB5⟩; have HB5 := Lib.hid hB5; have k1 := keepB hB5 k1; have k2 := keepB hB5 k2; have k3 := keepB hB5 k3; have k4 := keepB hB5 k4; have k5 := keepB hB5 k5; have k6 := keepB hB5 k6; clear hB5))
    all_goals
      go_wp2_with fail
      go_meet
      case rel => exact ⟨rfl, rfl, below_then (below_then (below_drew (Below.refl W.heap.size W)) (Nat.le_refl _) HB4.out) HB4.out.size HB5.out⟩
  case rest =>
    obtain ⟨rfl, rfl, hBx⟩ := hcut
    rename World => wx
    have h3 := (hBx.block (w.heap.size + 1) (by omega)).trans H2.out
    have z0 : wx.cell? ⟨w.heap.size + 1, 0, none⟩ = some (.int .i64 0) := (blk_cell h3 0).trans rfl
    have z1 : wx.cell? ⟨w.heap.size + 1, 1, none⟩ = some (.int .i64 0) := (blk_cell h3 1).trans rfl
    have z2 : wx.cell? ⟨w.heap.size + 1, 2, none⟩ = some (.int .i64 0) := (blk_cell h3 2).trans rfl
    have y0 := blk_frozen h3 0
    have y1 := blk_frozen h3 1
    have y2 := blk_frozen h3 2
    have H3 := Lib.hid h3; have HBx := Lib.hid (below_then HB.out HB.out.size hBx)
    clear h3 hBx hm hgd c2 c3 c4 c6 d0 d1 d2 HW HE H2 HB
    go_wp2_with fail
    refine bodyPost_ret (results_ctt rfl _ _ (w.heap.size + 1) 36 #[.int .i64 0, .int .i64 0, .int .i64 0] (0, 0) _ rfl ?hp Try.underlying36 rfl (by kernel_rfl)) rfl ?_
    case hp =>
      repeat (with_reducible first | exact H3.out | refine blk_drewN ?_ _ | refine blk_drew ?_ | refine blk_put (cs := #[.int .i64 0, .int .i64 0, .int .i64 0]) ?_ _ _ rfl)
    · refine ⟨rfl, ?_⟩
      repeat (with_reducible first | exact HBx.out | refine Kv.below_set ?_ (by simp) _ _ | refine pw_below_drewN ?_ _ | refine below_alloc ?_ _)
end Go.Proofs.Ytanhibhcmfmeeaa.Ag
/- The walk of Apply where the table takes the value. -/
namespace Go.Proofs.Ytanhibhcmfmeeaa.Ag
open Go.RowKit Go.Proofs.YtanhibhcmfmeeaaW.PrintWords Go.Proofs.YtanhibhcmfmeeaaW.PrintMore Go.Proofs.Ytanhibhcmfmeeaa.Cut Go.Proofs.Ytanhibhcmfmeeaa.Fr Go.Proofs.Ytanhibhcmfmeeaa.SlK Go.Proofs.Ytanhibhcmfmeeaa.Ex
theorem at_C5 {w : World} {A : Option Addr} {n : Nat} {l : List T5} (h : K5.C w A n l) (i : Nat) (hi : i < n) : ∃ ad x, A = some ad ∧ l[i]? = some x ∧ w.cell? (ad.add (i * 5)) = some (.int .i64 x.1) ∧ w.cell? ⟨(ad.add (i * 5)).block, (ad.add (i * 5)).off + 1, none⟩ = some (.int .i64 x.2.1) ∧
    w.cell? ⟨(ad.add (i * 5)).block, (ad.add (i * 5)).off + 2, none⟩ = some (.int .i64 x.2.2.1) ∧ w.cell? ⟨(ad.add (i * 5)).block, (ad.add (i * 5)).off + 3, none⟩ = some (.int .i64 x.2.2.2.1) ∧ w.cell? ⟨(ad.add (i * 5)).block, (ad.add (i * 5)).off + 4, none⟩ = some (.bool x.2.2.2.2) := by
  obtain ⟨hl, _, h⟩ := h
  obtain ⟨ad, hA, hc⟩ := h (by omega)
  have hil : i < l.length := by omega
  obtain ⟨cs, _, hk, hat⟩ := hc i (l[i]) (List.getElem?_eq_getElem hil)
  have e1 : K5.sz = 5 := rfl
  rw [e1] at hat
  obtain ⟨_, _, rfl, rfl, ⟨_, _, rfl, rfl, ⟨_, _, rfl, rfl, ⟨_, _, rfl, rfl, rfl⟩⟩⟩⟩ := hk
  refine ⟨ad, l[i], hA, List.getElem?_eq_getElem hil, hat 0 _ rfl, ?_, ?_, ?_, ?_⟩
  · rw [← add_field _ _ 1 (by omega)]; exact hat 1 _ rfl
  · rw [← add_field _ _ 2 (by omega)]; exact hat 2 _ rfl
  · rw [← add_field _ _ 3 (by omega)]; exact hat 3 _ rfl
  · rw [← add_field _ _ 4 (by omega)]; exact hat 4 _ rfl
def lastFrom (chs : List T5) : Int := (chs.getLast?.map (·.2.1)).getD 0
def resA (kind key rn time er : Int) (v : Value) (chs : List T5) : Value :=
  if er = 0 then .tuple #[recV key rn (if kind = 6 then time else lastFrom chs), v, .int .i64 0] else .tuple #[recV 0 0 0, .slice none 0 0, .int .i64 er]
/-- What the table's part tells: the changes, an error, and what it made of the world. -/
def PutQ (V : World) (Ft : Nat → Prop) (kind : Int) (R : World → Int → List T5 → World → Prop) (e : Ending) (w' : World) : Prop :=
  ∃ v er chs Ft', e = .returned (.tuple #[v, .int .i64 er]) ∧ Row5 w' V.heap.size v chs ∧ (er = 0 → kind ≠ 6 → chs ≠ []) ∧ Mv V w' Ft Ft' ∧ R V er chs w'
/-- What Apply leaves: behind the table's part two boxes alone are written. -/
def ApplyP (w : World) (Ft : Nat → Prop) (kind key rn time : Int) (R : World → Int → List T5 → World → Prop) (e : Ending) (w' : World) : Prop :=
  ∃ V w1 v er chs Ft', Below w.heap.size w V ∧ w.heap.size + 2 ≤ V.heap.size ∧ Row5 w1 V.heap.size v chs ∧ Mv V w1 Ft Ft' ∧ R V er chs w1 ∧ Mv w1 w' (fun k => k = w.heap.size ∨ k = w.heap.size + 1) (fun _ => False) ∧ e = .returned (resA kind key rn time er v chs)
theorem mv2_refl (w : World) (F : Nat → Prop) : Mv w w F (fun _ => False) := ⟨rfl, rfl, rfl, Nat.le_refl _, fun _ _ _ => rfl, fun _ h => h.elim⟩
theorem mv2_set {w W : World} {q1 q2 : Nat} (h : Mv w W (fun k => k = q1 ∨ k = q2) (fun _ => False)) {p : Addr} (hp : p.block = q1 ∨ p.block = q2) (u : Value) : Mv w (W.setCell p u) (fun k => k = q1 ∨ k = q2) (fun _ => False) := Kv.mv_set h (.inl hp) u
set_option maxHeartbeats 8000000 in
theorem apply_put {w0 w : World} {a : Nat} {kind n : Int} {x : Ex} {tt : TypeId} {p : Addr} (h : AgV w0 w a kind n x (.iface tt (.pointer (some p)))) (key val time g rn : Int) (ht : mayT time = true)
    (hg : ∀ W, Below w.heap.size w W → Calls Try.prog 24 #[.pointer (some ⟨a, 0, none⟩), recV key val time] W fun e w' => e = .returned (.int .i64 g) ∧ Below W.heap.size W w') (he : evalF ⟨key, val, time, g⟩ x = (rn, 0))
    (Ft : Nat → Prop) (hFt : ∀ k, Ft k → k < w.heap.size ∧ k ≠ a) (R : World → Int → List T5 → World → Prop)
    (hput : ∀ V, Below w.heap.size w V → Calls Try.prog 25 #[.pointer (some ⟨a, 0, none⟩), recV key val time, .int .i64 rn] V (PutQ V Ft kind R)) :
    Calls Try.prog 12 #[.pointer (some ⟨a, 0, none⟩), recV key val time] w (ApplyP w Ft kind key rn time R) := by
  unfold recV at hg hput ⊢
  obtain ⟨W, hW, hB, hs, h1, h2⟩ := two_boxes w key val time
  have hAgW := h.below hB
  obtain ⟨kA, kc, c0, c2, c3, c4, c5, c6, hx⟩ := hAgW.cells
  have hm := mayT_calls time W
  rw [ht] at hm
  have d0 : W.cell? ⟨w.heap.size, 0, none⟩ = some (.int .i64 key) := (blk_cell h1 0).trans rfl
  have d1 : W.cell? ⟨w.heap.size, 1, none⟩ = some (.int .i64 val) := (blk_cell h1 1).trans rfl
  have d2 : W.cell? ⟨w.heap.size, 2, none⟩ = some (.int .i64 time) := (blk_cell h1 2).trans rfl
  have hgd := hg W.drew (below_drew hB)
  have hev := fun V (hV : Below W.drew.heap.size W.drew V) => eval_calls ⟨key, val, time, g⟩ x _ V (hx.below (below_then (below_drew (Below.refl W.heap.size W)) (Nat.le_refl _) hV))
  rw [he] at hev
  simp only at hev
  have HW := Lib.hid hW; have HA := Lib.hid hAgW
  have H1 := Lib.hid h1; have H2 := Lib.hid h2; have HB := Lib.hid hB; have HE := Lib.hid hev; have HP := Lib.hid hput; have HF := Lib.hid hFt
  have hal : a < w.heap.size := h.lt
  clear h hW hB h1 h2 ht c0 c5 hev hg hx hAgW hput hFt he
  go_enter Try.func12, Try.ntmps12
  go_upto_region 1 with fail
  rw [← HW.out]
  go_upto_region 5 with ((with_reducible refine hm.mono ?_); rintro e w1 ⟨rfl, rfl⟩)
  rename World => W
  go_cut [7, 8] (fun u7 u8 wx => u7 = .int .i64 rn ∧ u8 = .int .i64 0 ∧ Below W.heap.size W wx)
  case first =>
    go_region_held3 (fun V => V.cell? ⟨a, 2, none⟩ = some (.int .i64 x.op) ∧ V.cell? ⟨a, 3, none⟩ = some (.int .i64 x.n) ∧ V.cell? ⟨a, 4, none⟩ = some (.slice kA x.kids.length kc) ∧ V.cell? ⟨w.heap.size, 0, none⟩ = some (.int .i64 key) ∧ V.cell? ⟨w.heap.size, 1, none⟩ = some (.int .i64 val) ∧ V.cell? ⟨w.heap.size, 2, none⟩ = some (.int .i64 time)) (go_keep)
      (first
      | (go_at_call 24; (with_reducible refine hgd.mono ?_); rintro e w4 ⟨rfl, hB4⟩; have HB4 := Lib.hid hB4; have k1 := keepB hB4 c2; have k2 := keepB hB4 c3; have k3 := keepB hB4 c4; have k4 := keepB hB4 d0; have k5 := keepB hB4 d1; have k6 := keepB hB4 d2; clear hB4)
      | (go_at_call 23; (with_reducible refine (HE.out _ HB4.out).mono ?_); rintro e w5 ⟨rfl, hB5⟩; have HB5 := Lib.hid hB5; have k1 := keepB hB5 k1; have k2 := keepB hB5 k2; have k3 := keepB hB5 k3; have k4 := keepB hB5 k4; have k5 := keepB hB5 k5; have k6 := keepB hB5 k6; clear hB5))
    all_goals
      go_wp2_with fail
      go_meet
      case rel => exact ⟨rfl, rfl, below_then (below_then (below_drew (Below.refl W.heap.size W)) (Nat.le_refl _) HB4.out) HB4.out.size HB5.out⟩
  case rest =>
    obtain ⟨rfl, rfl, hBx⟩ := hcut
    rename World => wx
    have h1x := (hBx.block w.heap.size (by omega)).trans H1.out
    have h2x := (hBx.block (w.heap.size + 1) (by omega)).trans H2.out
    have hBw := below_then HB.out HB.out.size hBx
    have e0 : wx.cell? ⟨w.heap.size, 0, none⟩ = some (.int .i64 key) := (blk_cell h1x 0).trans rfl
    have e1 : wx.cell? ⟨w.heap.size, 1, none⟩ = some (.int .i64 val) := (blk_cell h1x 1).trans rfl
    have e2 : wx.cell? ⟨w.heap.size, 2, none⟩ = some (.int .i64 time) := (blk_cell h1x 2).trans rfl
    have hcall := HP.out wx hBw
    have hAx := HA.out.below hBx
    have hsx : w.heap.size + 2 ≤ wx.heap.size := by have := hBx.size; omega
    have HX := Lib.hid (And.intro h1x (And.intro h2x (And.intro hBw hAx)))
    clear h1x h2x hBw hm hgd c2 c3 c4 c6 d0 d1 d2 HW HE H2 HB HP HA H1 hBx hAx
    go_wp2_with fail
    refine hcall.mono ?_
    rintro e w1 ⟨v, er, chs, Ft', rfl, hR5, hne, hM, hR⟩
    have n1 : ¬ Ft w.heap.size := fun e => by have := (HF.out _ e).1; omega
    have n2 : ¬ Ft (w.heap.size + 1) := fun e => by have := (HF.out _ e).1; omega
    have g1 := (hM.keep w.heap.size (by omega) n1).trans HX.out.1
    have g2 := (hM.keep (w.heap.size + 1) (by omega) n2).trans HX.out.2.1
    have k0 : w1.cell? ⟨a, 0, none⟩ = some (.int .i64 kind) := by
      obtain ⟨fA, fn, fc, kA, kc, hr, _⟩ := HX.out.2.2.2.row
      exact (blk_cell ((hM.keep a (by omega) (fun e => (HF.out _ e).2 rfl)).trans hr) 0).trans rfl
    have f1 : w1.cell? ⟨w.heap.size, 0, none⟩ = some (.int .i64 key) := (blk_cell g1 0).trans rfl
    have f1' : w1.cell? ⟨w.heap.size, 1, none⟩ = some (.int .i64 val) := (blk_cell g1 1).trans rfl
    have f1'' : w1.cell? ⟨w.heap.size, 2, none⟩ = some (.int .i64 time) := (blk_cell g1 2).trans rfl
    have u1 := blk_frozen g1 1
    have u2 := blk_frozen g1 2
    have z0 : w1.cell? ⟨w.heap.size + 1, 0, none⟩ = some (.int .i64 0) := (blk_cell g2 0).trans rfl
    have z1 : w1.cell? ⟨w.heap.size + 1, 1, none⟩ = some (.int .i64 0) := (blk_cell g2 1).trans rfl
    have z2 : w1.cell? ⟨w.heap.size + 1, 2, none⟩ = some (.int .i64 0) := (blk_cell g2 2).trans rfl
    have y0 := blk_frozen g2 0
    have y1 := blk_frozen g2 1
    have y2 := blk_frozen g2 2
    have HG := Lib.hid (And.intro g1 g2)
    obtain ⟨A, c, rfl, hlc, hC⟩ := Kd.R_reads hR5
    have HR := Lib.hid (show ∀ w', Mv w1 w' (fun k => k = w.heap.size ∨ k = w.heap.size + 1) (fun _ => False) → ApplyP w Ft kind key rn time R (.returned (resA kind key rn time er (.slice A chs.length c) chs)) w' from
      fun w' h' => ⟨wx, w1, _, er, chs, Ft', HX.out.2.2.1, hsx, hR5, hM, hR, h', rfl⟩)
    have HNE := Lib.hid hne; have HC := Lib.hid hC; have HOW := Lib.hid (own_row hR5)
    clear hcall e0 e1 e2 hR5 hM hR g1 g2 n1 n2 HX HF hne hC
    have hqq : w.heap.size ≠ w.heap.size + 1 := by omega
    by_cases her : er = 0
    · subst her
      by_cases hk : kind = 6
      · subst hk
        have hres : resA 6 key rn time 0 (.slice A chs.length c) chs = .tuple #[recV key rn time, .slice A chs.length c, .int .i64 0] := rfl
        rw [hres] at HR
        clear hres HNE HC
        go_wp2_with fail
        refine bodyPost_ret (results_ctt rfl _ _ (w.heap.size + 1) 36 #[.int .i64 key, .int .i64 rn, .int .i64 time] (0, 0) _ rfl ?hp Try.underlying36 rfl (by kernel_rfl)) rfl ?_
        case hp =>
          exact blk_put (blk_put (blk_put ((Below.heap_setCell _ _ _ _ (by simp)).trans HG.out.2) 0 _ rfl) 1 _ rfl) 2 _ rfl
        · refine HR.out _ ?_
          repeat (with_reducible first | exact mv2_refl _ _ | refine mv2_set ?_ (.inr rfl) _ | refine mv2_set ?_ (.inl rfl) _)
      · have hpos : 0 < chs.length := List.length_pos_iff.2 (HNE.out rfl hk)
        obtain ⟨ad, y, rfl, hy, a0, a1, _⟩ := at_C5 HC.out (chs.length - 1) (by omega)
        have hlast : lastFrom chs = y.2.1 := by
          unfold lastFrom
          rw [List.getLast?_eq_getElem?, hy]; rfl
        have hres : resA kind key rn time 0 (.slice (some ad) chs.length c) chs = .tuple #[recV key rn y.2.1, .slice (some ad) chs.length c, .int .i64 0] := by
          unfold resA
          rw [if_pos rfl, if_neg hk, hlast]
        rw [hres] at HR
        have hkb : (kind == 6) = false := beq_eq_false_iff_ne.2 hk
        have hl1 : chs.length ≤ 9223372036854775807 := HC.out.2.1
        have i1 : wrap64 ((chs.length : Int) - 1) = (chs.length : Int) - 1 := by unfold wrap64; omega
        have i2 : ((chs.length : Int) - 1).toNat = chs.length - 1 := by omega
        have i3 : (0 : Int) ≤ (chs.length : Int) - 1 := by omega
        have hne1 : (ad.add ((chs.length - 1) * 5)).block ≠ w.heap.size ∧ (ad.add ((chs.length - 1) * 5)).block ≠ w.heap.size + 1 := by
          obtain ⟨g2, hg2, hg3, _⟩ := HOW.out hpos
          obtain rfl := Option.some.inj hg2
          rw [add_plain]
          exact ⟨by simp only; omega, by simp only; omega⟩
        obtain ⟨o1, o2⟩ := hne1
        clear hres HNE HC hlast hy hpos HOW
        go_wp2_with fail
        refine bodyPost_ret (results_ctt rfl _ _ (w.heap.size + 1) 36 #[.int .i64 key, .int .i64 rn, .int .i64 y.2.1] (0, 0) _ rfl ?hp Try.underlying36 rfl (by kernel_rfl)) rfl ?_
        case hp =>
          exact blk_put (blk_put (blk_put ((Below.heap_setCell _ _ _ _ (by simp)).trans ((Below.heap_setCell _ _ _ _ (by simp)).trans HG.out.2)) 0 _ rfl) 1 _ rfl) 2 _ rfl
        · refine HR.out _ ?_
          repeat (with_reducible first | exact mv2_refl _ _ | refine mv2_set ?_ (.inr rfl) _ | refine mv2_set ?_ (.inl rfl) _)
    · have hb1 : (er == 0) = false := beq_eq_false_iff_ne.2 her
      have hres : resA kind key rn time er (.slice A chs.length c) chs = .tuple #[recV 0 0 0, .slice none 0 0, .int .i64 er] := if_neg her
      rw [hres] at HR
      clear hres HNE HC
      go_wp2_with fail
      refine bodyPost_ret (results_ctt rfl _ _ (w.heap.size + 1) 36 #[.int .i64 0, .int .i64 0, .int .i64 0] (0, 0) _ rfl ?hp Try.underlying36 rfl (by kernel_rfl)) rfl ?_
      case hp =>
        repeat (with_reducible first | exact HG.out.2 | refine blk_drewN ?_ _ | refine blk_drew ?_ | refine blk_put (cs := #[.int .i64 0, .int .i64 0, .int .i64 0]) ?_ _ _ rfl)
      · refine HR.out _ ?_
        repeat (with_reducible first | exact mv2_refl _ _ | refine mv2_set ?_ (.inr rfl) _)
end Go.Proofs.Ytanhibhcmfmeeaa.Ag
/- A vertex over a table of values: what a record meets, what it puts, a key's value; New. -/
namespace Go.Proofs.Ytanhibhcmfmeeaa.Ag
open Go.RowKit Go.Proofs.YtanhibhcmfmeeaaW.PrintWords Go.Proofs.YtanhibhcmfmeeaaW.PrintMore Go.Proofs.Ytanhibhcmfmeeaa.Cut Go.Proofs.Ytanhibhcmfmeeaa.Fr Go.Proofs.Ytanhibhcmfmeeaa.SlK Go.Proofs.Ytanhibhcmfmeeaa.Ex
abbrev ifKv (s : Nat) : Value := .iface 71 (.pointer (some ⟨s, 0, none⟩))
theorem assert_kv (s : Nat) (w : World) : (Instr.typeAssert (ifKv s) 60 71 true).run Try.prog w = .ok (.tuple #[.pointer (some ⟨s, 0, none⟩), .bool true]) w := by kernel_rfl
set_option maxHeartbeats 4000000 in
theorem gathered_kv {w0 w : World} {a s B : Nat} {kind n room : Int} {x : Ex} {l : Kv.L2} {v : Value} (h : AgV w0 w a kind n x (ifKv s)) (hO : Kv.Own w B s room l v) (key val time : Int) (W : World) (hW : Below w.heap.size w W) :
    Calls Try.prog 24 #[.pointer (some ⟨a, 0, none⟩), recV key val time] W fun e w' => e = .returned (.int .i64 ((Kv.look l key).getD 0)) ∧ Below W.heap.size W w' := by
  unfold recV
  have hta := assert_kv s
  have hB := below_alloc (Below.refl W.heap.size W) (.cells #[.int .i64 key, .int .i64 val, .int .i64 time] 36)
  obtain ⟨kA, kc, c0, c2, c3, c4, c5, c6, hx⟩ := ((h.below hW).below hB).cells
  have hg := Kv.get_calls ((hO.below hW).below hB) key
  generalize (Kv.look l key).getD 0 = r at hg ⊢
  generalize (Kv.look l key).isSome = o at hg
  have HB := Lib.hid hB
  clear h hO hW c0 c2 c3 c4 c5 hx hB
  go_enter Try.func24, Try.ntmps24
  go_wp2_with ((with_reducible refine hg.mono ?_); rintro e w1 ⟨rfl, hB1⟩)
  go_ret
  exact ⟨rfl, below_then HB.out HB.out.size hB1⟩
set_option maxHeartbeats 4000000 in
theorem value_kv {w0 w : World} {a s B : Nat} {kind n room : Int} {x : Ex} {l : Kv.L2} {v : Value} (h : AgV w0 w a kind n x (ifKv s)) (hO : Kv.Own w B s room l v) (key : Int) :
    Calls Try.prog 13 #[.pointer (some ⟨a, 0, none⟩), .int .i64 key] w fun e w' => e = .returned (.int .i64 ((Kv.look l key).getD 0)) ∧ Below w.heap.size w w' := by
  have hta := assert_kv s
  obtain ⟨kA, kc, c0, c2, c3, c4, c5, c6, hx⟩ := h.cells
  have hg := Kv.get_calls hO key
  generalize (Kv.look l key).getD 0 = r at hg ⊢
  generalize (Kv.look l key).isSome = o at hg
  clear h hO c0 c2 c3 c4 c5 hx
  go_enter Try.func13, Try.ntmps13
  go_wp2_with ((with_reducible refine hg.mono ?_); rintro e w1 ⟨rfl, hB1⟩)
  go_ret
  exact ⟨rfl, hB1⟩
theorem own_lit5 (W : World) (base : Nat) (x : T5) (hb : base ≤ W.heap.size) : (W.alloc (.cells (encC x).toArray 50)).ownsRow base 50 5 (.slice (some ⟨W.heap.size, 0, none⟩) 1 1) 1 (encC x) := by
  have h := World.ownsRow_lit (base := base) (e := 50) (size := 5) W (encC x).toArray 1 hb (by decide) (by simp [encC])
  simpa using h
theorem row5_one {w : World} {base : Nat} {v : Value} {x : T5} (h : w.ownsRow base 50 5 v 1 (encC x)) : Row5 w base v [x] :=
  ⟨fun _ _ => trivial, encC x, h, rfl, fun j p hp => by
    cases j with
    | zero =>
      obtain rfl : x = p := by simpa using hp
      exact K5_M _ _ _ _
    | succ j => simp at hp⟩
set_option maxHeartbeats 4000000 in
theorem put_kv {w0 w : World} {a s B : Nat} {kind n room : Int} {x : Ex} {l : Kv.L2} {v : Value} (h : AgV w0 w a kind n x (ifKv s)) (hO : Kv.Own w B s room l v) (key val time rn : Int) (hf : Kv.look l key = none → (l.length : Int) < room) (hk : kind = 6) (V : World) (hV : Below w.heap.size w V) :
    Calls Try.prog 25 #[.pointer (some ⟨a, 0, none⟩), recV key val time, .int .i64 rn] V (PutQ V (Kv.F s v) kind (fun V' er chs w1 => er = 0 ∧ chs = [(key, 0, 0, rn, false)] ∧ ∃ v', Kv.Own w1 B s room (Kv.putL key rn l) v' ∧ Mv V' w1 (Kv.F s v) (Kv.F s v'))) := by
  unfold recV
  have hta := assert_kv s
  have hB := below_alloc (Below.refl V.heap.size V) (.cells #[.int .i64 key, .int .i64 val, .int .i64 time] 36)
  have hAV := (h.below hV).below hB
  obtain ⟨kA, kc, c0, c2, c3, c4, c5, c6, hx⟩ := hAV.cells
  have hp := Kv.put_ok ((hO.below hV).below hB) key rn hf
  have HB := Lib.hid hB
  have HO := Lib.hid (And.intro (hO.below hV) hk)
  clear h hV c0 c2 c3 c4 c5 hx hB hAV hO hf
  go_enter Try.func25, Try.ntmps25
  go_wp2_with fail
  refine hp.mono ?_
  rintro e w1 ⟨v', rfl, hO1, hM1⟩
  have HO1 := Lib.hid hO1; have HM1 := Lib.hid hM1
  unfold Kv.chgV
  clear hp hO1 hM1
  go_wp2_with fail
  go_ret2
  have hM2 : Mv V w1 (Kv.F s v) (Kv.F s v') := (Mv.of_below _ HB.out).trans HM1.out
  have hB2 : Below w1.heap.size w1 (w1.alloc (.cells (encC (key, 0, 0, rn, false)).toArray 50)) := below_alloc (Below.refl _ _) _
  have hB3 := below_then hB2 hB2.size (below_alloc (Below.refl _ _) (.cells (encC (key, 0, 0, rn, false)).toArray 50))
  have hrow := own_lit5 (w1.alloc (.cells (encC (key, 0, 0, rn, false)).toArray 50)) V.heap.size (key, 0, 0, rn, false) (by have := hM2.size; simp; omega)
  have hsz : (w1.alloc (.cells (encC (key, 0, 0, rn, false)).toArray 50)).heap.size = w1.heap.size + 1 := by simp
  rw [hsz] at hrow
  have hM3 := hM2.trans (Mv.of_below _ hB3)
  exact ⟨_, 0, [(key, 0, 0, rn, false)], Kv.F s v', rfl, row5_one hrow, fun _ hne => absurd HO.out.2 hne, hM3, rfl, rfl, v', HO1.out.below hB3, hM3⟩
end Go.Proofs.Ytanhibhcmfmeeaa.Ag
/- agg.New at a table of values; a nil store. -/
namespace Go.Proofs.Ytanhibhcmfmeeaa.Ag
open Go.RowKit Go.Proofs.YtanhibhcmfmeeaaW.PrintWords Go.Proofs.YtanhibhcmfmeeaaW.PrintMore Go.Proofs.Ytanhibhcmfmeeaa.Cut Go.Proofs.Ytanhibhcmfmeeaa.Fr Go.Proofs.Ytanhibhcmfmeeaa.SlK Go.Proofs.Ytanhibhcmfmeeaa.Ex
/-- A vertex that is handed over by value. -/
structure VxV (w : World) (kind n : Int) (x : Ex) (v : Value) : Prop where
  out : ∃ fA fn fc kA kc, v = .agg #[.int .i64 kind, .slice fA fn fc, .int .i64 x.op, .int .i64 x.n, .slice kA x.kids.length kc, .int .i64 n] ∧ ExV w x (.agg #[.int .i64 x.op, .int .i64 x.n, .slice kA x.kids.length kc])
theorem VxV.below {w w' : World} {kind n : Int} {x : Ex} {v : Value} (h : VxV w kind n x v) (hb : Below w.heap.size w w') : VxV w' kind n x v := by
  obtain ⟨fA, fn, fc, kA, kc, h1, h2⟩ := h.out
  exact ⟨fA, fn, fc, kA, kc, h1, h2.below hb⟩
def OpenKv (w : World) (B : Nat) (e : Ending) (w' : World) : Prop := ∃ s, e = .returned (.tuple #[ifKv s, .int .i64 0]) ∧ Kv.Own w' B s 1024 [] (.slice none 0 0) ∧ Below w.heap.size w w' ∧ w.heap.size ≤ s
set_option maxHeartbeats 4000000 in
theorem open_kv {w : World} {n : Int} {x : Ex} {v : Value} (h : VxV w 6 n x v) (B : Nat) (hB : B ≤ w.heap.size) : Calls Try.prog 21 #[v] w (OpenKv w B) := by
  obtain ⟨fA, fn, fc, kA, kc, rfl, hx⟩ := h.out
  have hb := below_alloc (Below.refl w.heap.size w) (.cells #[.int .i64 6, .slice fA fn fc, .int .i64 x.op, .int .i64 x.n, .slice kA x.kids.length kc, .int .i64 n] 33)
  have hn := Kv.new_calls 1024 (by decide) B _ (Nat.le_trans hB hb.size)
  have HB := Lib.hid hb
  clear h hx hb hB
  go_enter Try.func21, Try.ntmps21
  go_wp2_with ((with_reducible refine hn.mono ?_); rintro e w1 ⟨rfl, hO, hB1⟩)
  go_ret2
  have hsz : (w.alloc (.cells #[.int .i64 6, .slice fA fn fc, .int .i64 x.op, .int .i64 x.n, .slice kA x.kids.length kc, .int .i64 n] 33)).heap.size = w.heap.size + 1 := by simp
  exact ⟨w.heap.size + 1, rfl, by rw [← hsz]; exact hO, below_then HB.out HB.out.size hB1, by omega⟩
def NewKv (w : World) (n : Int) (x : Ex) (v : Value) (e : Ending) (w' : World) : Prop :=
  ∃ a s, e = .returned (.tuple #[.pointer (some ⟨a, 0, none⟩), .int .i64 0]) ∧ AgV w w' a 6 n x (ifKv s) ∧ Kv.Own w' w.heap.size s 1024 [] (.slice none 0 0) ∧ s < a ∧ w.heap.size ≤ a ∧ Below w.heap.size w w' ∧ ∃ fA fn fc kA kc, v = .agg #[.int .i64 6, .slice fA fn fc, .int .i64 x.op, .int .i64 x.n, .slice kA x.kids.length kc, .int .i64 n] ∧ w'.heap[a]? = some (.cells #[.int .i64 6, .slice fA fn fc, .int .i64 x.op, .int .i64 x.n, .slice kA x.kids.length kc, .int .i64 n, ifKv s] 64 (0, 0))
set_option maxHeartbeats 4000000 in
theorem new_kv {w : World} {n : Int} {x : Ex} {v : Value} (h : VxV w 6 n x v) (hm : mayE x = true) : Calls Try.prog 10 #[v] w (NewKv w n x v) := by
  obtain ⟨fA, fn, fc, kA, kc, rfl, hx⟩ := h.out
  obtain ⟨W, hW⟩ : ∃ W, W = w.alloc (.cells #[.int .i64 6, .slice fA fn fc, .int .i64 x.op, .int .i64 x.n, .slice kA x.kids.length kc, .int .i64 n] 33) := ⟨_, rfl⟩
  have hb : Below w.heap.size w W := by rw [hW]; exact below_alloc (Below.refl w.heap.size w) _
  have hr : W.heap[w.heap.size]? = some (.cells #[.int .i64 6, .slice fA fn fc, .int .i64 x.op, .int .i64 x.n, .slice kA x.kids.length kc, .int .i64 n] 33 (0, 0)) := by rw [hW]; exact (Go.MapKept.heap_alloc w _).1
  have hM := May_calls x _ W (hx.below hb)
  rw [hm] at hM
  have c0 : W.cell? ⟨w.heap.size, 0, none⟩ = some (.int .i64 6) := (blk_cell hr 0).trans rfl
  have c1 : W.cell? ⟨w.heap.size, 1, none⟩ = some (.slice fA fn fc) := (blk_cell hr 1).trans rfl
  have c2 : W.cell? ⟨w.heap.size, 2, none⟩ = some (.int .i64 x.op) := (blk_cell hr 2).trans rfl
  have c3 : W.cell? ⟨w.heap.size, 3, none⟩ = some (.int .i64 x.n) := (blk_cell hr 3).trans rfl
  have c4 : W.cell? ⟨w.heap.size, 4, none⟩ = some (.slice kA x.kids.length kc) := (blk_cell hr 4).trans rfl
  have c5 : W.cell? ⟨w.heap.size, 5, none⟩ = some (.int .i64 n) := (blk_cell hr 5).trans rfl
  have ho := fun V (hV : Below w.heap.size w V) => open_kv (h.below hV) w.heap.size hV.size
  have HW := Lib.hid hW; have HB := Lib.hid hb; have HO := Lib.hid ho; have HX := Lib.hid hx
  have hw0 : w.heap.size < W.heap.size := (Array.getElem?_eq_some_iff.1 hr).1
  clear h hm hW hb ho hr hx
  go_enter Try.func10, Try.ntmps10
  go_upto_region 1 with fail
  rw [← HW.out]
  go_wp2_with fail
  refine hM.mono ?_
  rintro e w1 ⟨rfl, hB1⟩
  obtain ⟨k0, k1, k2, k3, k4, k5⟩ : w1.cell? ⟨w.heap.size, 0, none⟩ = some (.int .i64 6) ∧ w1.cell? ⟨w.heap.size, 1, none⟩ = some (.slice fA fn fc) ∧ w1.cell? ⟨w.heap.size, 2, none⟩ = some (.int .i64 x.op) ∧ w1.cell? ⟨w.heap.size, 3, none⟩ = some (.int .i64 x.n) ∧ w1.cell? ⟨w.heap.size, 4, none⟩ = some (.slice kA x.kids.length kc) ∧ w1.cell? ⟨w.heap.size, 5, none⟩ = some (.int .i64 n) := ⟨keepB hB1 c0, keepB hB1 c1, keepB hB1 c2, keepB hB1 c3, keepB hB1 c4, keepB hB1 c5⟩
  have hB2 := below_then HB.out HB.out.size hB1
  have ho := HO.out w1 hB2
  have HB2 := Lib.hid hB2
  clear c0 c1 c2 c3 c4 c5 hM hB1 hB2
  go_wp2_with fail
  refine ho.mono ?_
  rintro e w2 ⟨s, rfl, hK, hB3, hs⟩
  obtain ⟨c0, c1, c2, c3, c4, c5⟩ : w2.cell? ⟨w.heap.size, 0, none⟩ = some (.int .i64 6) ∧ w2.cell? ⟨w.heap.size, 1, none⟩ = some (.slice fA fn fc) ∧ w2.cell? ⟨w.heap.size, 2, none⟩ = some (.int .i64 x.op) ∧ w2.cell? ⟨w.heap.size, 3, none⟩ = some (.int .i64 x.n) ∧ w2.cell? ⟨w.heap.size, 4, none⟩ = some (.slice kA x.kids.length kc) ∧ w2.cell? ⟨w.heap.size, 5, none⟩ = some (.int .i64 n) := ⟨keepB hB3 k0, keepB hB3 k1, keepB hB3 k2, keepB hB3 k3, keepB hB3 k4, keepB hB3 k5⟩
  have hB4 := below_then HB2.out HB2.out.size hB3
  have HK := Lib.hid hK; have HB4 := Lib.hid hB4; have HS := Lib.hid hs
  clear ho hK hB3 hB4 hs k0 k1 k2 k3 k4 k5 HB2 HO HB HW
  go_wp2_with fail
  go_ret2
  have hB5 : Below w2.heap.size w2 (w2.alloc (.cells #[.int .i64 6, .slice fA fn fc, .int .i64 x.op, .int .i64 x.n, .slice kA x.kids.length kc, .int .i64 n, ifKv s] 64)) := below_alloc (Below.refl _ _) _
  exact ⟨_, s, rfl, ⟨below_then HB4.out HB4.out.size hB5, HB4.out.size, fA, fn, fc, kA, kc, (Go.MapKept.heap_alloc w2 _).1, HX.out⟩, HK.out.below hB5, (HK.out.lt s (.inl rfl)).2, HB4.out.size, below_then HB4.out HB4.out.size hB5, fA, fn, fc, kA, kc, rfl, (Go.MapKept.heap_alloc w2 _).1⟩
/-! a nil store -/
set_option maxHeartbeats 1000000 in
theorem value_nil (key : Int) (w : World) : Calls Try.prog 13 #[.pointer none, .int .i64 key] w fun e w' => e = .returned (.int .i64 0) ∧ w = w' := by
  go_enter Try.func13, Try.ntmps13
  go_wp2
  go_ret
  exact ⟨rfl, rfl⟩
set_option maxHeartbeats 1000000 in
theorem late_nil (key val time mark : Int) (w : World) : Calls Try.prog 17 #[.pointer none, recV key val time, .int .i64 mark] w fun e w' => e = .returned (.bool false) ∧ Below w.heap.size w w' := by
  unfold recV
  go_enter Try.func17, Try.ntmps17
  go_wp2
  go_ret
  exact ⟨rfl, below_alloc (Below.refl _ _) _⟩
set_option maxHeartbeats 1000000 in
theorem expire_nil (mark : Int) (w : World) : Calls Try.prog 16 #[.pointer none, .int .i64 mark] w fun e w' => e = .returned (.slice none 0 0) ∧ w = w' := by
  go_enter Try.func16, Try.ntmps16
  go_wp2
  go_ret
  exact ⟨rfl, rfl⟩
set_option maxHeartbeats 1000000 in
theorem do_nil (x : T5) (w : World) : Calls Try.prog 18 #[.pointer none, .agg (encC x).toArray] w fun e w' => e = .returned (.int .i64 3) ∧ Below w.heap.size w w' := by
  unfold encC
  go_enter Try.func18, Try.ntmps18
  go_wp2
  go_ret
  exact ⟨rfl, below_alloc (Below.refl _ _) _⟩
set_option maxHeartbeats 1000000 in
theorem list_nil (w : World) : Calls Try.prog 15 #[.pointer none] w fun e w' => e = .returned (.slice none 0 0) ∧ w = w' := by
  go_enter Try.func15, Try.ntmps15
  go_wp2
  go_ret
  exact ⟨rfl, rfl⟩
end Go.Proofs.Ytanhibhcmfmeeaa.Ag
/- Changes: two lists of changes are the same; two records are. -/
namespace Go.Proofs.Ytanhibhcmfmeeaa.Ag
open Go.RowKit Go.Proofs.YtanhibhcmfmeeaaW.PrintWords Go.Proofs.YtanhibhcmfmeeaaW.PrintMore Go.Proofs.Ytanhibhcmfmeeaa.Cut Go.Proofs.Ytanhibhcmfmeeaa.Fr Go.Proofs.Ytanhibhcmfmeeaa.SlK Go.Proofs.Ytanhibhcmfmeeaa.Ex Go.Proofs.Ytanhibhcmfmeeaa.PAggNobody
def toS (x : T5) : S50 := ⟨x.1, x.2.1, x.2.2.1, x.2.2.2.1, x.2.2.2.2⟩
theorem C_toS {w : World} {A : Option Addr} {n : Nat} {l : List T5} (h : K5.C w A n l) : k50.C w A n (l.map toS) := by
  obtain ⟨h1, h2, h3⟩ := h
  refine ⟨by simpa using h1, h2, fun hn => ?_⟩
  obtain ⟨ad, hA, hc⟩ := h3 hn
  refine ⟨ad, hA, fun j p hj => ?_⟩
  rw [List.getElem?_map] at hj
  obtain ⟨q, hq, rfl⟩ := Option.map_eq_some_iff.1 hj
  exact hc j q hq
theorem rd_toS {l : List T5} {j : Nat} (h : j < l.length) : rd_T50 (l.map toS) (j : Int) = toS l[j] := by
  unfold rd_T50
  simp [List.getD, h]
theorem same5 (x y : T5) : ((!((toS x).f0 == (toS y).f0) || (!((toS x).f1 == (toS y).f1) || (!((toS x).f2 == (toS y).f2) || (!((toS x).f3 == (toS y).f3) || (!((toS x).f4 == (toS y).f4)))))) = true) ↔ x ≠ y := by
  obtain ⟨x1, x2, x3, x4, x5⟩ := x
  obtain ⟨y1, y2, y3, y4, y5⟩ := y
  simp only [toS, ne_eq, Prod.mk.injEq, Bool.or_eq_true, Bool.not_eq_true', beq_eq_false_iff_ne]
  by_cases h1 : x1 = y1 <;> by_cases h2 : x2 = y2 <;> by_cases h3 : x3 = y3 <;> by_cases h4 : x4 = y4 <;> by_cases h5 : x5 = y5 <;> simp [h1, h2, h3, h4, h5]
theorem changes_l0 {a b : List T5} (hl : a.length = b.length) (hb : a.length ≤ 1000000) : ∀ (d i k : Nat), a.length - i = d → i ≤ a.length → d < k → (∀ j, j < i → a[j]? = b[j]?) → tidemillref12_Changes.l0 k (a.map toS) (b.map toS) (i : Int) = some (decide (a = b)) := by
  intro d
  induction d with
  | zero =>
    intro i k hd hi hk hs
    obtain ⟨k, rfl⟩ : ∃ m, k = m + 1 := ⟨k - 1, by omega⟩
    simp only [tidemillref12_Changes.l0]
    rw [if_neg (by rw [List.length_map]; omega)]
    have : a = b := List.ext_getElem? fun j => by
      by_cases hj : j < i
      · exact hs j hj
      · rw [List.getElem?_eq_none (by omega), List.getElem?_eq_none (by omega)]
    rw [decide_eq_true this]
  | succ d ih =>
    intro i k hd hi hk hs
    obtain ⟨k, rfl⟩ : ∃ m, k = m + 1 := ⟨k - 1, by omega⟩
    have h1 : i < a.length := by omega
    have h2 : i < b.length := by omega
    simp only [tidemillref12_Changes.l0]
    rw [if_pos (by rw [List.length_map]; omega), if_pos (by omega), if_pos (by rw [List.length_map]; omega), rd_toS h1, rd_toS h2]
    by_cases e : a[i] = b[i]
    · rw [if_neg (by rw [same5]; exact fun h => h e)]
      have hw : wrap64 ((i : Int) + 1) = ((i + 1 : Nat) : Int) := by unfold wrap64; omega
      rw [hw]
      refine ih (i + 1) k (by omega) (by omega) (by omega) fun j hj => ?_
      by_cases hji : j = i
      · subst hji; rw [List.getElem?_eq_getElem h1, List.getElem?_eq_getElem h2, e]
      · exact hs j (by omega)
    · rw [if_pos (by rw [same5]; exact e)]
      have : a ≠ b := fun h => e (by simp [h])
      rw [decide_eq_false this]
theorem changes_f {a b : List T5} (hb : a.length ≤ 1000000) : tidemillref12_Changes.f (a.length + 1) (a.map toS) (b.map toS) = some (decide (a = b)) := by
  unfold tidemillref12_Changes.f
  by_cases hl : a.length = b.length
  · rw [if_pos (by simp [hl])]
    exact changes_l0 hl hb a.length 0 _ rfl (by omega) (by omega) (fun j hj => by omega)
  · rw [if_neg (by rw [List.length_map, List.length_map]; omega), decide_eq_false (fun h => hl (by rw [h]))]
theorem changes_calls {a b : List T5} {A B : Option Addr} {c d : Nat} {w : World} (ha : K5.C w A a.length a) (hac : a.length ≤ c) (hb : K5.C w B b.length b) (hbd : b.length ≤ d) (hn : a.length ≤ 1000000) :
    Calls Try.prog 14 #[.slice A a.length c, .slice B b.length d] w fun e w' => e = .returned (.bool (decide (a = b))) ∧ ∃ q, w' = w.drewN q := by
  have h := tidemillref12_Changes.calls (a.length + 1) A c (a.map toS) B d (b.map toS) (decide (a = b)) w (by rw [List.length_map]; exact C_toS ha) (by rw [List.length_map]; exact hac) (by rw [List.length_map]; exact C_toS hb) (by rw [List.length_map]; exact hbd) (changes_f hn)
  rw [List.length_map, List.length_map] at h
  refine h.mono ?_
  rintro e w' ⟨rfl, h2⟩
  obtain ⟨q, h3⟩ := h2.out
  exact ⟨rfl, q, h3⟩
theorem eqRec (d : Nat) (w : World) (x0 y0 : Int) (x1 y1 : Int) (x2 y2 : Int) :
    (Op.equalIn (d + 2) 36 (.agg #[.int .i64 x0, .int .i64 x1, .int .i64 x2]) (.agg #[.int .i64 y0, .int .i64 y1, .int .i64 y2])).run Try.prog w = .ok (x0 == y0 && (x1 == y1 && (x2 == y2))) w := by
  refine eqA_of Try.underlying36 (by kernel_rfl) ?_
  refine eqf_cons (by rfl) (by go_simp; rfl) (by go_simp; rfl) (by go_simp) ?_
  refine eqf_cons (by rfl) (by go_simp; rfl) (by go_simp; rfl) (by go_simp) ?_
  exact eqf_last (by rfl) (by go_simp; rfl) (by go_simp; rfl) (by go_simp)
end Go.Proofs.Ytanhibhcmfmeeaa.Ag
/- The sum; the document's example. -/
namespace Go.Proofs.Ytanhibhcmfmeeaa.Ag
open Go.RowKit Go.Proofs.YtanhibhcmfmeeaaW.PrintWords Go.Proofs.YtanhibhcmfmeeaaW.PrintMore Go.Proofs.Ytanhibhcmfmeeaa.Cut Go.Proofs.Ytanhibhcmfmeeaa.Fr Go.Proofs.Ytanhibhcmfmeeaa.SlK Go.Proofs.Ytanhibhcmfmeeaa.Ex
def sumE : Ex := .mk 6 0 [.mk 5 0 [], .mk 3 0 []]
theorem sum_may : mayE sumE = true := by decide +kernel
theorem sum_eval (q : Go.Proofs.Ytanhibhcmfmeeaa.Ex.Ask) : evalF q sumE = (wrap64 (q.acc + q.val), 0) := by
  unfold evalF
  rw [sum_may]
  rfl
theorem leafR {W : World} {b : Nat} {cs : Array Value} {t : TypeId} {op n : Int} (h : W.heap[b]? = some (.cells cs t (0, 0))) (p : Nat) (h0 : cs[p]? = some (.int .i64 op)) (h1 : cs[p + 1]? = some (.int .i64 n)) (h2 : cs[p + 2]? = some (.slice none 0 0)) (w1 : W64 op) (w2 : W64 n) : KidR W (.mk op n []) ⟨b, p, none⟩ := by
  unfold KidR
  refine ⟨(blk_cell h p).trans h0, ?_, w1, w2, by simp, none, 0, ?_, by unfold KidsR; trivial⟩
  · rw [show (⟨b, p, none⟩ : Addr).add 1 = ⟨b, p + 1, none⟩ from rfl]; exact (blk_cell h _).trans h1
  · rw [show (⟨b, p, none⟩ : Addr).add 2 = ⟨b, p + 2, none⟩ from rfl]; exact (blk_cell h _).trans h2
theorem kids_cons {W : World} {x : Ex} {r : List Ex} {ad : Addr} (h : KidR W x ad) (hr : KidsR W r (some (ad.add 3))) : KidsR W (x :: r) (some ad) := by
  unfold KidsR
  exact ⟨ad, rfl, h, hr⟩
abbrev sumRow : Obj := .cells #[.int .i64 5, .int .i64 0, .slice none 0 0, .int .i64 3, .int .i64 0, .slice none 0 0] 31
theorem sumV {W : World} {b : Nat} (h2 : W.heap[b]? = some sumRow) : ExV W sumE (.agg #[.int .i64 6, .int .i64 0, .slice (some ⟨b, 0, none⟩) 2 2]) := by
  refine ⟨_, _, rfl, by decide, by decide, by decide, ?_⟩
  refine kids_cons (leafR h2 0 rfl rfl rfl (by decide) (by decide)) ?_
  rw [add_plain]
  refine kids_cons (leafR h2 3 rfl rfl rfl (by decide) (by decide)) ?_
  unfold KidsR
  trivial
def SumP (w : World) (e : Ending) (w' : World) : Prop := ∃ b : Nat, e = .returned (.agg #[.int .i64 6, .int .i64 0, .slice (some ⟨b, 0, none⟩) 2 2]) ∧ w'.heap[b]? = some sumRow ∧ w.heap.size ≤ b ∧ Below w.heap.size w w'
set_option maxHeartbeats 4000000 in
theorem sum_calls (w : World) : Calls Try.prog 19 #[] w (SumP w) := by
  go_enter Try.func19, Try.ntmps19
  go_wp2
  obtain ⟨W, hW⟩ : ∃ W, W = (w.alloc (.cells #[.int .i64 6, .int .i64 0, .slice (some ⟨w.heap.size + 1, 0, none⟩) 2 2] 31)).alloc (.cells #[.int .i64 5, .int .i64 0, .slice none 0 0, .int .i64 3, .int .i64 0, .slice none 0 0] 31) := ⟨_, rfl⟩
  rw [← hW]
  have h1 : W.heap[w.heap.size]? = some (.cells #[.int .i64 6, .int .i64 0, .slice (some ⟨w.heap.size + 1, 0, none⟩) 2 2] 31 (0, 0)) := by
    rw [hW, (Go.MapKept.heap_alloc _ _).2 _ (by simp), (Go.MapKept.heap_alloc w _).1]
  have h2 : W.heap[w.heap.size + 1]? = some (.cells #[.int .i64 5, .int .i64 0, .slice none 0 0, .int .i64 3, .int .i64 0, .slice none 0 0] 31 (0, 0)) := by
    rw [hW]
    simpa using (Go.MapKept.heap_alloc (w.alloc (.cells #[.int .i64 6, .int .i64 0, .slice (some ⟨w.heap.size + 1, 0, none⟩) 2 2] 31)) (.cells #[.int .i64 5, .int .i64 0, .slice none 0 0, .int .i64 3, .int .i64 0, .slice none 0 0] 31)).1
  have hB : Below w.heap.size w W := by rw [hW]; exact below_alloc (below_alloc (Below.refl _ _) _) _
  refine bodyPost_ret (results_cell_row rfl _ _ w.heap.size 31 #[.int .i64 6, .int .i64 0, .slice (some ⟨w.heap.size + 1, 0, none⟩) 2 2] (0, 0) _ rfl h1 Try.underlying31 rfl (by kernel_rfl)) rfl ?_
  exact ⟨w.heap.size + 1, rfl, h2, by omega, hB⟩
end Go.Proofs.Ytanhibhcmfmeeaa.Ag
/- The usual vertex. -/
namespace Go.Proofs.Ytanhibhcmfmeeaa.Ag
open Go.RowKit Go.Proofs.YtanhibhcmfmeeaaW.PrintWords Go.Proofs.YtanhibhcmfmeeaaW.PrintMore Go.Proofs.Ytanhibhcmfmeeaa.Cut Go.Proofs.Ytanhibhcmfmeeaa.Fr Go.Proofs.Ytanhibhcmfmeeaa.SlK Go.Proofs.Ytanhibhcmfmeeaa.Ex
def kindU (k : Int) : Int := if k % 3 = 0 then 6 else if k % 3 = 1 then 7 else 8
def UsualP (w : World) (k m : Int) (e : Ending) (w' : World) : Prop := ∃ v, e = .returned v ∧ VxV w' (kindU k) (1 + m) sumE v ∧ Below w.heap.size w w'
/-- The same with the operands' block told. -/
def UsualB (w : World) (k m : Int) (e : Ending) (w' : World) : Prop := ∃ b : Nat, e = .returned (.agg #[.int .i64 (kindU k), .slice none 0 0, .int .i64 6, .int .i64 0, .slice (some ⟨b, 0, none⟩) 2 2, .int .i64 (1 + m)]) ∧ w'.heap[b]? = some sumRow ∧ w.heap.size ≤ b ∧ Below w.heap.size w w'
set_option maxHeartbeats 8000000 in
theorem usual_b (k m : Int) (hk : 0 ≤ k ∧ k ≤ 255) (hm : 0 ≤ m ∧ m ≤ 255) (w : World) : Calls Try.prog 11 #[.int .u8 k, .int .u8 m] w (UsualB w k m) := by
  obtain ⟨W, hW⟩ : ∃ W, W = (w.alloc (.cells #[.int .i64 0, .slice none 0 0, .int .i64 0, .int .i64 0, .slice none 0 0, .int .i64 0] 33)).alloc (.cells #[.int .i64 6, .int .i64 7, .int .i64 8] 3) := ⟨_, rfl⟩
  have h1 : W.heap[w.heap.size]? = some (.cells #[.int .i64 0, .slice none 0 0, .int .i64 0, .int .i64 0, .slice none 0 0, .int .i64 0] 33 (0, 0)) := by
    rw [hW, (Go.MapKept.heap_alloc _ _).2 _ (by simp), (Go.MapKept.heap_alloc w _).1]
  have h2 : W.heap[w.heap.size + 1]? = some (.cells #[.int .i64 6, .int .i64 7, .int .i64 8] 3 (0, 0)) := by
    rw [hW]
    simpa using (Go.MapKept.heap_alloc (w.alloc (.cells #[.int .i64 0, .slice none 0 0, .int .i64 0, .int .i64 0, .slice none 0 0, .int .i64 0] 33)) (.cells #[.int .i64 6, .int .i64 7, .int .i64 8] 3)).1
  have hB : Below w.heap.size w W := by rw [hW]; exact below_alloc (below_alloc (Below.refl _ _) _) _
  have hc : W.cell? ⟨w.heap.size + 1, (k % 3).toNat, none⟩ = some (.int .i64 (kindU k)) := by
    rw [blk_cell h2]
    unfold kindU
    have : k % 3 = 0 ∨ k % 3 = 1 ∨ k % 3 = 2 := by omega
    rcases this with h | h | h <;> rw [h] <;> rfl
  have hsum := fun V => sum_calls V
  have b1 := hk.1; have b2 := hk.2; have b3 := hm.1; have b4 := hm.2
  have t1 : (k.tmod 3) = k % 3 := Int.tmod_eq_emod_of_nonneg b1
  rw [← t1] at hc
  have t2 : 0 ≤ k.tmod 3 := by rw [t1]; exact Int.emod_nonneg k (by decide)
  have t3 : k.tmod 3 < 3 := by rw [t1]; exact Int.emod_lt_of_pos k (by decide)
  have t4 : IntKind.i64.wrap (1 + m) = 1 + m := by rw [IntKind.wrap_i64]; omega
  have t5 : IntKind.i64.wrap k = k := by rw [IntKind.wrap_i64]; omega
  have t6 : IntKind.i64.wrap m = m := by rw [IntKind.wrap_i64]; omega
  obtain ⟨kt, hkt⟩ : ∃ kt, kt = k.tmod 3 := ⟨_, rfl⟩
  rw [← hkt] at t2 t3 hc
  replace hkt := hkt.symm
  clear t1
  have hw0 : w.heap.size + 1 < W.heap.size := (Array.getElem?_eq_some_iff.1 h2).1
  obtain ⟨kd, hkd⟩ : ∃ kd, kd = kindU k := ⟨_, rfl⟩
  rw [← hkd] at hc
  have HKD := Lib.hid hkd
  clear hkd
  have HW := Lib.hid hW; have HB := Lib.hid hB; have H1 := Lib.hid h1
  clear hW hB h1 h2 hk hm
  go_enter Try.func11, Try.ntmps11
  go_upto_region 2 with fail
  rw [← HW.out]
  go_region_held3 (fun V => V.cell? ⟨w.heap.size + 1, kt.toNat, none⟩ = some (.int .i64 kd)) (go_keep)
    (first | (go_at_call 19; (with_reducible refine (hsum _).mono ?_); rintro e w4 ⟨b, rfl, hx, hbs, hB4⟩; have HX := Lib.hid (And.intro hx hbs); have HB4 := Lib.hid hB4; have k1 := keepB hB4 hc; have hr4 := (show w4.heap[w.heap.size]? = some _ from (hB4.block w.heap.size (Nat.lt_of_le_of_lt (Nat.le_succ _) hw0)).trans H1.out); have HR4 := Lib.hid hr4; have z0 := (blk_cell hr4 0).trans rfl; have z1 := (blk_cell hr4 1).trans rfl; have z2 := (blk_cell hr4 2).trans rfl; have z3 := (blk_cell hr4 3).trans rfl; have z4 := (blk_cell hr4 4).trans rfl; have z5 := (blk_cell hr4 5).trans rfl; have y0 := blk_frozen hr4 0; have y1 := blk_frozen hr4 1; have y2 := blk_frozen hr4 2; have y3 := blk_frozen hr4 3; have y4 := blk_frozen hr4 4; have y5 := blk_frozen hr4 5; clear hx hbs hB4 hr4))
  all_goals
    go_wp2_with fail
    have hrow := blk_put (blk_put (blk_put (blk_put (blk_put (blk_put HR4.out 0 (.int .i64 kd) rfl) 1 (.slice none 0 0) rfl) 2 (.int .i64 6) rfl) 3 (.int .i64 0) rfl) 4 (.slice (some ⟨b, 0, none⟩) 2 2) rfl) 5 (.int .i64 (1 + m)) rfl
    refine bodyPost_ret (results_cell_row rfl _ _ w.heap.size 33 #[.int .i64 kd, .slice none 0 0, .int .i64 6, .int .i64 0, .slice (some ⟨b, 0, none⟩) 2 2, .int .i64 (1 + m)] (0, 0) _ rfl hrow Try.underlying33 rfl (by kernel_rfl)) rfl ?_
    have hne : b ≠ w.heap.size := by have h8 : W.heap.size ≤ b := HX.out.2; have h9 : w.heap.size + 1 < W.heap.size := hw0; omega
    have hb : ((((((w4.setCell ⟨w.heap.size, 0, none⟩ (.int .i64 kd)).setCell ⟨w.heap.size, 1, none⟩ (.slice none 0 0)).setCell ⟨w.heap.size, 2, none⟩ (.int .i64 6)).setCell ⟨w.heap.size, 3, none⟩ (.int .i64 0)).setCell ⟨w.heap.size, 4, none⟩ (.slice (some ⟨b, 0, none⟩) 2 2)).setCell ⟨w.heap.size, 5, none⟩ (.int .i64 (1 + m))).heap[b]? = some sumRow := by
      rw [Below.heap_setCell _ ⟨w.heap.size, 5, none⟩ _ b hne, Below.heap_setCell _ ⟨w.heap.size, 4, none⟩ _ b hne, Below.heap_setCell _ ⟨w.heap.size, 3, none⟩ _ b hne, Below.heap_setCell _ ⟨w.heap.size, 2, none⟩ _ b hne, Below.heap_setCell _ ⟨w.heap.size, 1, none⟩ _ b hne, Below.heap_setCell _ ⟨w.heap.size, 0, none⟩ _ b hne]
      exact HX.out.1
    refine ⟨b, by rw [← HKD.out], hb, Nat.le_trans HB.out.size HX.out.2, ?_⟩
    have hBw := below_then (below_then HB.out HB.out.size (below_drew (Below.refl W.heap.size W))) HB.out.size HB4.out
    exact Kv.below_set (Kv.below_set (Kv.below_set (Kv.below_set (Kv.below_set (Kv.below_set hBw (Nat.le_refl _) _ _) (Nat.le_refl _) _ _) (Nat.le_refl _) _ _) (Nat.le_refl _) _ _) (Nat.le_refl _) _ _) (Nat.le_refl _) _ _
theorem usual_calls (k m : Int) (hk : 0 ≤ k ∧ k ≤ 255) (hm : 0 ≤ m ∧ m ≤ 255) (w : World) : Calls Try.prog 11 #[.int .u8 k, .int .u8 m] w (UsualP w k m) :=
  (usual_b k m hk hm w).mono fun _ _ ⟨b, h1, h2, _, h4⟩ => ⟨_, h1, ⟨none, 0, 0, some ⟨b, 0, none⟩, 2, rfl, sumV h2⟩, h4⟩
end Go.Proofs.Ytanhibhcmfmeeaa.Ag
/- A vertex with a table of sums: Apply, Value. -/
namespace Go.Proofs.Ytanhibhcmfmeeaa.Ag
open Go.RowKit Go.Proofs.YtanhibhcmfmeeaaW.PrintWords Go.Proofs.YtanhibhcmfmeeaaW.PrintMore Go.Proofs.Ytanhibhcmfmeeaa.Cut Go.Proofs.Ytanhibhcmfmeeaa.Fr Go.Proofs.Ytanhibhcmfmeeaa.SlK Go.Proofs.Ytanhibhcmfmeeaa.Ex
/-- A vertex with a table: at block a, the table at block s, its row v. -/
structure AgK (w0 w : World) (a s : Nat) (n : Int) (x : Ex) (l : Kv.L2) (v : Value) : Prop where
  vx : AgV w0 w a 6 n x (ifKv s)
  tb : Kv.Own w w0.heap.size s 1024 l v
theorem AgK.below {w0 w w' : World} {a s : Nat} {n : Int} {x : Ex} {l : Kv.L2} {v : Value} (h : AgK w0 w a s n x l v) (hb : Below w.heap.size w w') : AgK w0 w' a s n x l v := ⟨h.vx.below hb, h.tb.below hb⟩
theorem AgK.ne {w0 w : World} {a s : Nat} {n : Int} {x : Ex} {l : Kv.L2} {v : Value} (h : AgK w0 w a s n x l v) : ¬ Kv.F s v a := by
  obtain ⟨_, _, _, _, _, hr, _⟩ := h.vx.row
  rintro (e | e)
  · have := h.tb.row
    rw [← e, hr] at this
    injection this with this
    injection this with _ this
    exact absurd this (by decide)
  · obtain ⟨cells, hc⟩ := own_typed h.tb.pairs a e.symm
    rw [hr] at hc
    injection hc with hc
    injection hc with _ hc
    exact absurd hc (by decide)
/-- Blocks of other types are none of its table's. -/
theorem AgK.far {w0 w : World} {a s : Nat} {n : Int} {x : Ex} {l : Kv.L2} {v : Value} (h : AgK w0 w a s n x l v) {k : Nat} {cs : Array Value} {t : TypeId} {fr : Nat × Nat} (hk : w.heap[k]? = some (.cells cs t fr)) (h1 : t ≠ 100) (h2 : t ≠ 97) : ¬ Kv.F s v k := by
  rintro (e | e)
  · have := h.tb.row
    rw [← e, hk] at this
    injection this with this
    injection this with _ this
    exact h1 this
  · obtain ⟨cells, hc⟩ := own_typed h.tb.pairs k e.symm
    rw [hk] at hc
    injection hc with hc
    injection hc with _ hc
    exact h2 hc
def ApK (w0 w : World) (a s : Nat) (n : Int) (x : Ex) (l : Kv.L2) (v : Value) (key r time : Int) (e : Ending) (w' : World) : Prop :=
  ∃ sl v', e = .returned (.tuple #[recV key r time, sl, .int .i64 0]) ∧ Row5 w' w.heap.size sl [(key, 0, 0, r, false)] ∧ AgK w0 w' a s n x (Kv.putL key r l) v' ∧ Mv w w' (Kv.F s v) (Kv.F s v')
theorem apply_kv {w0 w : World} {a s : Nat} {n : Int} {x : Ex} {l : Kv.L2} {v : Value} (h : AgK w0 w a s n x l v) (key val time r : Int) (ht : mayT time = true) (he : evalF ⟨key, val, time, (Kv.look l key).getD 0⟩ x = (r, 0)) (hf : Kv.look l key = none → l.length < 1024) :
    Calls Try.prog 12 #[.pointer (some ⟨a, 0, none⟩), recV key val time] w (ApK w0 w a s n x l v key r time) := by
  have hne := h.ne
  refine (apply_put h.vx key val time _ r ht (fun W hW => gathered_kv h.vx h.tb key val time W hW) he (Kv.F s v) (fun k hk => ⟨(h.tb.lt k hk).2, fun e => hne (e ▸ hk)⟩) _ (fun V hV => put_kv h.vx h.tb key val time r (fun hl => by have := hf hl; omega) rfl V hV)).mono ?_
  rintro e w' ⟨V, w1, sl, er, chs, Ft', hV, hVs, hR5, _, ⟨rfl, rfl, v', hO, hM⟩, hM2, rfl⟩
  have hsz : w.heap.size ≤ V.heap.size := by omega
  have hF' : ∀ k, Kv.F s v' k → k ≠ w.heap.size ∧ k ≠ w.heap.size + 1 := fun k hk => by
    rcases hM.new k hk with e | e
    · have := (h.tb.lt k e).2; exact ⟨by omega, by omega⟩
    · exact ⟨by omega, by omega⟩
  have hMw : Mv w w' (Kv.F s v) (Kv.F s v') := by
    have h1 := (Mv.of_below (Kv.F s v) hV).trans hM
    refine ⟨hM2.os.trans h1.os, hM2.tape.trans h1.tape, hM2.output.trans h1.output, Nat.le_trans h1.size hM2.size, fun k hk hs => ?_, h1.new⟩
    exact (hM2.keep k (Nat.lt_of_lt_of_le hk h1.size) (by omega)).trans (h1.keep k hk hs)
  refine ⟨sl, v', rfl, ?_, ⟨h.vx.mv hMw (fun k hk => (h.tb.lt k hk).1) hne, hO.kept fun k hk => hM2.keep k (hO.lt k hk).2 (by have := hF' k hk; omega)⟩, hMw⟩
  exact Kd.R_lower (Kd.R_mono (Kd.R_move (Kd.R_bound hR5) fun k hk => hM2.keep k (by have := hk.2.2.1; omega) (by have := hk.2.1; omega)) fun _ _ => trivial) hsz
theorem value_k {w0 w : World} {a s : Nat} {n : Int} {x : Ex} {l : Kv.L2} {v : Value} (h : AgK w0 w a s n x l v) (key : Int) :
    Calls Try.prog 13 #[.pointer (some ⟨a, 0, none⟩), .int .i64 key] w fun e w' => e = .returned (.int .i64 ((Kv.look l key).getD 0)) ∧ Below w.heap.size w w' := value_kv h.vx h.tb key
end Go.Proofs.Ytanhibhcmfmeeaa.Ag
/- The document's example. -/
namespace Go.Proofs.Ytanhibhcmfmeeaa.Ag
open Go.RowKit Go.Proofs.YtanhibhcmfmeeaaW.PrintWords Go.Proofs.YtanhibhcmfmeeaaW.PrintMore Go.Proofs.Ytanhibhcmfmeeaa.Cut Go.Proofs.Ytanhibhcmfmeeaa.Fr Go.Proofs.Ytanhibhcmfmeeaa.SlK Go.Proofs.Ytanhibhcmfmeeaa.Ex
attribute [local go_sem high] eqRec
theorem mayT_yes (t : Int) (h0 : 0 ≤ t) (h1 : t ≤ 1099511627776) : mayT t = true := decide_eq_true ⟨h0, h1⟩
set_option maxHeartbeats 8000000 in
theorem shown_calls (w : World) : Calls Try.prog 9 #[] w fun e w' => e = .returned (.bool true) ∧ Below w.heap.size w w' := by
  have hs := sum_calls w
  go_enter Try.func9, Try.ntmps9
  go_wp2_with fail
  refine hs.mono ?_
  rintro e w1 ⟨b, rfl, hrow, hbs, hB1⟩
  have hn := new_kv (w := w1) (n := 0) (x := sumE) (v := .agg #[.int .i64 6, .slice none 0 0, .int .i64 6, .int .i64 0, .slice (some ⟨b, 0, none⟩) 2 2, .int .i64 0]) ⟨none, 0, 0, some ⟨b, 0, none⟩, 2, rfl, sumV hrow⟩ sum_may
  have HB1 := Lib.hid hB1
  clear hs hrow hbs hB1
  go_wp2_with fail
  refine hn.mono ?_
  rintro e w2 ⟨a, s, rfl, hV, hO, hsa⟩
  have hK : AgK w1 w2 a s 0 sumE [] (.slice none 0 0) := ⟨hV, hO⟩
  have hA1 := apply_kv hK 1 5 0 5 (by decide) (by decide +kernel) (fun _ => by decide)
  have HB2 := Lib.hid (below_then HB1.out HB1.out.size hV.low)
  unfold recV at hA1
  clear hn hV hO hsa hK
  go_wp2_with fail
  refine hA1.mono ?_
  rintro e w3 ⟨sl1, v1, rfl, hR1, hK1, hM1⟩
  obtain ⟨A1, c1, rfl, hc1, _⟩ := Kd.R_reads hR1
  have hB3 : Below w.heap.size w w3 := below_then HB1.out HB1.out.size hK1.vx.low
  have e1 : Kv.putL 1 5 [] = [(1, 5)] := by decide +kernel
  rw [e1] at hK1
  obtain ⟨W3, hW3⟩ : ∃ W, W = w3.alloc (.cells #[.int .i64 1, .int .i64 5, .int .i64 0] 36) := ⟨_, rfl⟩
  have hb3 : Below w3.heap.size w3 W3 := by rw [hW3]; exact below_alloc (Below.refl _ _) _
  have hr3 : W3.heap[w3.heap.size]? = some (.cells #[.int .i64 1, .int .i64 5, .int .i64 0] 36 (0, 0)) := by rw [hW3]; exact (Go.MapKept.heap_alloc w3 _).1
  have hK3 := hK1.below hb3
  have hA2 := apply_kv hK3 1 6 3 11 (by decide) (by decide +kernel) (fun _ => by decide)
  have HW3 := Lib.hid hW3
  have HB3 := Lib.hid (below_then hB3 hB3.size hb3)
  have HR3 := Lib.hid hr3
  have HK3 := Lib.hid hK3
  unfold recV at hA2 ⊢
  clear hR1 hK1 hM1 hB3 hW3 hb3 hr3 hK3 hA1 e1 HB2
  go_upto_region 5 with fail
  rw [← HW3.out]
  go_wp2_with fail
  refine hA2.mono ?_
  rintro e w4 ⟨sl2, v2, rfl, hR2, hK2, hM2⟩
  obtain ⟨A2, c2, rfl, hc2, _⟩ := Kd.R_reads hR2
  have e2 : Kv.putL 1 11 [(1, 5)] = [(1, 11)] := by decide +kernel
  rw [e2] at hK2
  have hr4 := (hM2.keep _ (Array.getElem?_eq_some_iff.1 HR3.out).1 (HK3.out.far HR3.out (by decide) (by decide))).trans HR3.out
  obtain ⟨W4, hW4⟩ : ∃ W, W = w4.alloc (.cells #[.int .i64 1, .int .i64 11, .int .i64 3] 36) := ⟨_, rfl⟩
  have hb4 : Below w4.heap.size w4 W4 := by rw [hW4]; exact below_alloc (Below.refl _ _) _
  have hr5 : W4.heap[w4.heap.size]? = some (.cells #[.int .i64 1, .int .i64 11, .int .i64 3] 36 (0, 0)) := by rw [hW4]; exact (Go.MapKept.heap_alloc w4 _).1
  have hr4' := (hb4.block _ (Array.getElem?_eq_some_iff.1 hr4).1).trans hr4
  have hK4 := hK2.below hb4
  have hb5 : Below W4.heap.size W4 (W4.alloc (.cells (encC (1, 0, 0, 11, false)).toArray 50)) := below_alloc (Below.refl _ _) _
  have hR5 := Kd.R_below (Kd.R_below hR2 hb4) hb5
  have hC1 : K5.C (W4.alloc (.cells (encC (1, 0, 0, 11, false)).toArray 50)) A2 [((1, 0, 0, 11, false) : T5)].length [((1, 0, 0, 11, false) : T5)] := by
    obtain ⟨A', c', e, _, h⟩ := Kd.R_reads hR5
    injection e with e _ _
    rw [e]; exact h
  have hC2 : K5.C (W4.alloc (.cells (encC (1, 0, 0, 11, false)).toArray 50)) (some ⟨W4.heap.size, 0, none⟩) [((1, 0, 0, 11, false) : T5)].length [((1, 0, 0, 11, false) : T5)] := by
    obtain ⟨A', c', e, _, h⟩ := Kd.R_reads (row5_one (own_lit5 W4 0 (1, 0, 0, 11, false) (Nat.zero_le _)))
    injection e with e _ _
    rw [e]; exact h
  have hch := changes_calls (c := c2) (d := 1) hC1 hc2 hC2 (Nat.le_refl _) (by decide)
  rw [decide_eq_true rfl] at hch
  simp only [List.length_singleton] at hch
  have hvl := fun q => value_k ((hK4.below hb5).below (w' := (W4.alloc (.cells (encC (1, 0, 0, 11, false)).toArray 50)).drewN q) (pw_below_drewN (Below.refl _ _) q)) 1
  have e3 : (Kv.look [(1, 11)] 1).getD 0 = 11 := by decide +kernel
  rw [e3] at hvl
  have hB4 : Below w.heap.size w W4 := by
    have h1 := below_then HB1.out HB1.out.size hK2.vx.low
    exact below_then h1 h1.size hb4
  have d1 : W4.cell? ⟨w3.heap.size, 1, none⟩ = some (.int .i64 5) := (blk_cell hr4' 1).trans rfl
  have g0 : W4.cell? ⟨w4.heap.size, 0, none⟩ = some (.int .i64 1) := (blk_cell hr5 0).trans rfl
  have g1 : W4.cell? ⟨w4.heap.size, 1, none⟩ = some (.int .i64 11) := (blk_cell hr5 1).trans rfl
  have g2 : W4.cell? ⟨w4.heap.size, 2, none⟩ = some (.int .i64 3) := (blk_cell hr5 2).trans rfl
  have HW4 := Lib.hid hW4; have HB4 := Lib.hid hB4; have HB5 := Lib.hid hb5
  unfold encC at hch hvl
  unfold recV
  clear hW4 hB4 hb5 hR2 hK2 hM2 hr4 hr4' hr5 hK4 hR5 hC1 hC2 hb4 e2 e3 HB3 HR3 HK3 HW3 hA2
  go_upto_region 6 with fail
  rw [← HW4.out]
  go_wp2_with (first
    | (go_at_call 14; (with_reducible refine hch.mono ?_); rintro e w5 ⟨rfl, q, rfl⟩)
    | (go_at_call 13; (with_reducible refine (hvl _).mono ?_); rintro e w6 ⟨rfl, hB6⟩))
  go_ret
  exact ⟨rfl, below_then (below_then (below_then HB4.out HB4.out.size HB5.out) (Nat.le_trans HB4.out.size HB5.out.size) (pw_below_drewN (Below.refl _ _) _)) (Nat.le_trans HB4.out.size HB5.out.size) hB6⟩
end Go.Proofs.Ytanhibhcmfmeeaa.Ag
