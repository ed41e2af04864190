import Derived.Test.YtanhibhcmfmeeaaAgOb
import Derived.Test.YtanhibhcmfmeeaaSeC
/- Do, Expire, whatever the table. -/
namespace Go.Proofs.Ytanhibhcmfmeeaa.Ag
open Go.RowKit Go.Proofs.YtanhibhcmfmeeaaW.PrintWords Go.Proofs.YtanhibhcmfmeeaaW.PrintMore Go.Proofs.Ytanhibhcmfmeeaa.Cut Go.Proofs.Ytanhibhcmfmeeaa.Fr Go.Proofs.Ytanhibhcmfmeeaa.SlK Go.Proofs.Ytanhibhcmfmeeaa.Ex
open Go.Proofs.Ytanhibhcmfmeeaa.Win (St P2 startF)
open Go.Proofs.Ytanhibhcmfmeeaa.Se (L4 S4)
set_option maxHeartbeats 4000000 in
theorem kv_do_put {w : World} {B s : Nat} {room : Int} {l : Kv.L2} {v : Value} (h : Kv.Own w B s room l v) (key val : Int) (hf : Kv.look l key = none → (l.length : Int) < room) :
    Calls Try.prog 112 #[.pointer (some ⟨s, 0, none⟩), .agg #[.int .i64 key, .int .i64 0, .int .i64 0, .int .i64 val, .bool false]] w fun e w' => ∃ v', e = .returned (.int .i64 0) ∧ Kv.Own w' B s room (Kv.putL key val l) v' ∧ Mv w w' (Kv.F s v) (Kv.F s v') := by
  have hb := below_alloc (Below.refl w.heap.size w) (.cells #[.int .i64 key, .int .i64 0, .int .i64 0, .int .i64 val, .bool false] 50)
  have hp := Kv.put_ok (h.below hb) key val hf
  have HB := Lib.hid hb
  unfold Kv.PutP Kv.chgV at hp
  clear h hb hf
  go_enter Try.func112, Try.ntmps112
  go_wp2_with fail
  refine hp.mono ?_
  rintro e w1 ⟨v', rfl, hO, hM⟩
  have HF := Lib.hid (And.intro hO hM)
  clear hp hO hM
  go_wp2_with fail
  go_ret
  have hb2 : Below w1.heap.size w1 (w1.alloc (.cells #[.int .i64 key, .int .i64 0, .int .i64 0, .int .i64 val, .bool false] 50)) := below_alloc (Below.refl _ _) _
  exact ⟨v', rfl, HF.out.1.below hb2, ((Mv.of_below _ HB.out).trans HF.out.2).trans (Mv.of_below _ hb2)⟩
theorem meth_do_kv (d s : Nat) (w : World) : (method (d + 1) 71 (.pointer (some ⟨s, 0, none⟩)) "Do").run Try.prog w = .ok (112, .pointer (some ⟨s, 0, none⟩)) w := by kernel_rfl
theorem meth_do_win (d s : Nat) (w : World) : (method (d + 1) 75 (.pointer (some ⟨s, 0, none⟩)) "Do").run Try.prog w = .ok (117, .pointer (some ⟨s, 0, none⟩)) w := by kernel_rfl
theorem meth_do_se (d s : Nat) (w : World) : (method (d + 1) 76 (.pointer (some ⟨s, 0, none⟩)) "Do").run Try.prog w = .ok (119, .pointer (some ⟨s, 0, none⟩)) w := by kernel_rfl
def DoR (w0 w : World) (a : Nat) (n : Int) (x : Ex) (t' : Tb) (F : Nat → Prop) (e : Ending) (w' : World) : Prop :=
  ∃ F', e = .returned (.int .i64 0) ∧ AgO w0 w' a n x t' F' ∧ Mv w w' F F'
set_option maxRecDepth 100000 in
set_option maxHeartbeats 4000000 in
theorem do_kv {w0 w : World} {a s : Nat} {n : Int} {x : Ex} {l : Kv.L2} {v : Value} (h : AgK w0 w a s n x l v) (key val : Int) (hf : Kv.look l key = none → l.length < 1024) :
    Calls Try.prog 18 #[.pointer (some ⟨a, 0, none⟩), .agg #[.int .i64 key, .int .i64 0, .int .i64 0, .int .i64 val, .bool false]] w (DoR w0 w a n x (.kv (Kv.putL key val l)) (Kv.F s v)) := by
  obtain ⟨W, hW⟩ : ∃ W, W = w.alloc (.cells #[.int .i64 key, .int .i64 0, .int .i64 0, .int .i64 val, .bool false] 50) := ⟨_, rfl⟩
  have hB : Below w.heap.size w W := by rw [hW]; exact below_alloc (Below.refl _ _) _
  have hr : W.heap[w.heap.size]? = some (.cells #[.int .i64 key, .int .i64 0, .int .i64 0, .int .i64 val, .bool false] 50 (0, 0)) := by rw [hW]; exact (Go.MapKept.heap_alloc w _).1
  obtain ⟨kA, kc, c0, c2, c3, c4, c5, c6, _⟩ := (h.below hB).vx.cells
  have x0 : W.cell? ⟨w.heap.size, 0, none⟩ = some (.int .i64 key) := (blk_cell hr 0).trans rfl
  have x1 : W.cell? ⟨w.heap.size, 1, none⟩ = some (.int .i64 0) := (blk_cell hr 1).trans rfl
  have x2 : W.cell? ⟨w.heap.size, 2, none⟩ = some (.int .i64 0) := (blk_cell hr 2).trans rfl
  have x3 : W.cell? ⟨w.heap.size, 3, none⟩ = some (.int .i64 val) := (blk_cell hr 3).trans rfl
  have x4 : W.cell? ⟨w.heap.size, 4, none⟩ = some (.bool false) := (blk_cell hr 4).trans rfl
  have hd := fun V (hV : Below W.heap.size W V) => kv_do_put ((h.below hB).tb.below hV) key val (fun e => by have := hf e; omega)
  have hdd := hd W.drew (below_drew (Below.refl _ _))
  have hm := fun d w => meth_do_kv d s w
  have HW := Lib.hid hW; have HB := Lib.hid hB; have H0 := Lib.hid h
  clear h hW hB hr hf c0 c2 c3 c4 c5 hd
  go_enter Try.func18, Try.ntmps18
  go_upto_region 1 with fail
  rw [← HW.out]
  go_upto_region 3 with fail
  go_region_with (go_at_call 112; (with_reducible refine hdd.mono ?_); rintro e w4 ⟨v', rfl, hO, hM⟩; have H4 := Lib.hid (And.intro hO hM); clear hO hM)
  all_goals
    go_wp2_with fail
    go_ret
    have hM : Mv w w4 (Kv.F s v) (Kv.F s v') := (Mv.of_below _ (pw_below_drewN HB.out 1)).trans H4.out.2
    exact ⟨Kv.F s v', rfl, .kv ⟨H0.out.vx.mv hM (fun k hk => (H0.out.tb.lt k hk).1) H0.out.ne, H4.out.1⟩, hM⟩
-- PRINTED BY mkdo2
set_option maxRecDepth 100000 in
set_option maxHeartbeats 4000000 in
theorem do_win_put {w0 w : World} {a s b : Nat} {n : Int} {x : Ex} {m : St} (h : AgW w0 w a s b n x m) (key f val : Int) (hk : Ex.W64 key) (hv : Ex.W64 val) (hw : Ex.W64 f) (hf : 0 ≤ f) (hfs : startF n f = f) (hl : Win.look m (f, key) = none → m.length < 1024) :
    Calls Try.prog 18 #[.pointer (some ⟨a, 0, none⟩), .agg #[.int .i64 key, .int .i64 f, .int .i64 (f + n), .int .i64 val, .bool false]] w (DoR w0 w a n x (.win (Win.put (f, key) val m)) (Fw s b)) := by
  obtain ⟨W, hW⟩ : ∃ W, W = w.alloc (.cells #[.int .i64 key, .int .i64 f, .int .i64 (f + n), .int .i64 val, .bool false] 50) := ⟨_, rfl⟩
  have hB : Below w.heap.size w W := by rw [hW]; exact below_alloc (Below.refl _ _) _
  have hr : W.heap[w.heap.size]? = some (.cells #[.int .i64 key, .int .i64 f, .int .i64 (f + n), .int .i64 val, .bool false] 50 (0, 0)) := by rw [hW]; exact (Go.MapKept.heap_alloc w _).1
  obtain ⟨kA, kc, c0, c2, c3, c4, c5, c6, _⟩ := (h.below hB).vx.cells
  have x0 : W.cell? ⟨w.heap.size, 0, none⟩ = some (.int .i64 key) := (blk_cell hr 0).trans rfl
  have x1 : W.cell? ⟨w.heap.size, 1, none⟩ = some (.int .i64 f) := (blk_cell hr 1).trans rfl
  have x2 : W.cell? ⟨w.heap.size, 2, none⟩ = some (.int .i64 (f + n)) := (blk_cell hr 2).trans rfl
  have x3 : W.cell? ⟨w.heap.size, 3, none⟩ = some (.int .i64 val) := (blk_cell hr 3).trans rfl
  have x4 : W.cell? ⟨w.heap.size, 4, none⟩ = some (.bool false) := (blk_cell hr 4).trans rfl
  have hdd := Win.do_put (win_below (h.below hB).tb (below_drew (Below.refl W.heap.size W))) key f val hk hv hw hf hfs (fun e => by have := hl e; omega)
  have hm := fun d w => meth_do_win d s w
  have HW := Lib.hid hW; have HB := Lib.hid hB; have H0 := Lib.hid h
  clear h hW hB hr c0 c2 c3 c4 c5 hk hv hw hf hfs hl
  go_enter Try.func18, Try.ntmps18
  go_upto_region 1 with fail
  rw [← HW.out]
  go_upto_region 3 with fail
  go_region_with (go_at_call 117; (with_reducible refine hdd.mono ?_); rintro e w4 ⟨rfl, hO, hg⟩; have H4 := Lib.hid (And.intro hO hg); clear hO hg)
  all_goals
    go_wp2_with fail
    go_ret
    have hM : Mv w w4 (Fw s b) (Fw s b) := (Mv.of_below _ (pw_below_drewN HB.out 1)).trans (Mv.of_grown H4.out.2 (fun k e => .inr (Option.some.inj e).symm) fun k e => .inl e)
    refine ⟨Fw s b, rfl, .win ⟨H0.out.vx.mv hM (fun k hk => ?_) H0.out.ne, H4.out.1, H0.out.bs, H0.out.bb⟩, hM⟩
    rcases hk with rfl | rfl
    · exact H0.out.bs
    · exact H0.out.bb
set_option maxRecDepth 100000 in
set_option maxHeartbeats 4000000 in
theorem do_win_del {w0 w : World} {a s b : Nat} {n : Int} {x : Ex} {m : St} (h : AgW w0 w a s b n x m) (key f : Int) (hk : Ex.W64 key) (hw : Ex.W64 f) (hf : 0 ≤ f) (hfs : startF n f = f) (hl : (Win.look m (f, key)).isSome = true) :
    Calls Try.prog 18 #[.pointer (some ⟨a, 0, none⟩), .agg #[.int .i64 key, .int .i64 f, .int .i64 (f + n), .int .i64 0, .bool true]] w (DoR w0 w a n x (.win (Win.del (f, key) m)) (Fw s b)) := by
  obtain ⟨W, hW⟩ : ∃ W, W = w.alloc (.cells #[.int .i64 key, .int .i64 f, .int .i64 (f + n), .int .i64 0, .bool true] 50) := ⟨_, rfl⟩
  have hB : Below w.heap.size w W := by rw [hW]; exact below_alloc (Below.refl _ _) _
  have hr : W.heap[w.heap.size]? = some (.cells #[.int .i64 key, .int .i64 f, .int .i64 (f + n), .int .i64 0, .bool true] 50 (0, 0)) := by rw [hW]; exact (Go.MapKept.heap_alloc w _).1
  obtain ⟨kA, kc, c0, c2, c3, c4, c5, c6, _⟩ := (h.below hB).vx.cells
  have x0 : W.cell? ⟨w.heap.size, 0, none⟩ = some (.int .i64 key) := (blk_cell hr 0).trans rfl
  have x1 : W.cell? ⟨w.heap.size, 1, none⟩ = some (.int .i64 f) := (blk_cell hr 1).trans rfl
  have x2 : W.cell? ⟨w.heap.size, 2, none⟩ = some (.int .i64 (f + n)) := (blk_cell hr 2).trans rfl
  have x3 : W.cell? ⟨w.heap.size, 3, none⟩ = some (.int .i64 0) := (blk_cell hr 3).trans rfl
  have x4 : W.cell? ⟨w.heap.size, 4, none⟩ = some (.bool true) := (blk_cell hr 4).trans rfl
  have hdd := Win.do_del (win_below (h.below hB).tb (below_drew (Below.refl W.heap.size W))) key f hk hw hf hfs hl
  have hm := fun d w => meth_do_win d s w
  have HW := Lib.hid hW; have HB := Lib.hid hB; have H0 := Lib.hid h
  clear h hW hB hr c0 c2 c3 c4 c5 hk hw hf hfs hl
  go_enter Try.func18, Try.ntmps18
  go_upto_region 1 with fail
  rw [← HW.out]
  go_upto_region 3 with fail
  go_region_with (go_at_call 117; (with_reducible refine hdd.mono ?_); rintro e w4 ⟨rfl, hO, hg⟩; have H4 := Lib.hid (And.intro hO hg); clear hO hg)
  all_goals
    go_wp2_with fail
    go_ret
    have hM : Mv w w4 (Fw s b) (Fw s b) := (Mv.of_below _ (pw_below_drewN HB.out 1)).trans (Mv.of_grown H4.out.2 (fun k e => .inr (Option.some.inj e).symm) fun k e => .inl e)
    refine ⟨Fw s b, rfl, .win ⟨H0.out.vx.mv hM (fun k hk => ?_) H0.out.ne, H4.out.1, H0.out.bs, H0.out.bb⟩, hM⟩
    rcases hk with rfl | rfl
    · exact H0.out.bs
    · exact H0.out.bb
set_option maxRecDepth 100000 in
set_option maxHeartbeats 4000000 in
theorem do_se_put {w0 w : World} {a s : Nat} {n : Int} {x : Ex} {l : L4} {v : Value} (h : AgS w0 w a s n x l v) (key fr to_ val : Int) (hx : Se.Wf ⟨key, fr, to_, val⟩) (hft : fr ≤ to_) (hp : Se.has l (key, fr, to_) = false → l.length < 1024) :
    Calls Try.prog 18 #[.pointer (some ⟨a, 0, none⟩), .agg #[.int .i64 key, .int .i64 fr, .int .i64 to_, .int .i64 val, .bool false]] w (DoR w0 w a n x (.se (Se.doL ⟨key, fr, to_, val⟩ false l)) (Se.F s v)) := by
  obtain ⟨W, hW⟩ : ∃ W, W = w.alloc (.cells #[.int .i64 key, .int .i64 fr, .int .i64 to_, .int .i64 val, .bool false] 50) := ⟨_, rfl⟩
  have hB : Below w.heap.size w W := by rw [hW]; exact below_alloc (Below.refl _ _) _
  have hr : W.heap[w.heap.size]? = some (.cells #[.int .i64 key, .int .i64 fr, .int .i64 to_, .int .i64 val, .bool false] 50 (0, 0)) := by rw [hW]; exact (Go.MapKept.heap_alloc w _).1
  obtain ⟨kA, kc, c0, c2, c3, c4, c5, c6, _⟩ := (h.below hB).vx.cells
  have x0 : W.cell? ⟨w.heap.size, 0, none⟩ = some (.int .i64 key) := (blk_cell hr 0).trans rfl
  have x1 : W.cell? ⟨w.heap.size, 1, none⟩ = some (.int .i64 fr) := (blk_cell hr 1).trans rfl
  have x2 : W.cell? ⟨w.heap.size, 2, none⟩ = some (.int .i64 to_) := (blk_cell hr 2).trans rfl
  have x3 : W.cell? ⟨w.heap.size, 3, none⟩ = some (.int .i64 val) := (blk_cell hr 3).trans rfl
  have x4 : W.cell? ⟨w.heap.size, 4, none⟩ = some (.bool false) := (blk_cell hr 4).trans rfl
  have hdd := Se.do_put ((h.below hB).tb.below (below_drew (Below.refl W.heap.size W))) key fr to_ val hx hft (fun e => by have := hp e; omega)
  have hm := fun d w => meth_do_se d s w
  have HW := Lib.hid hW; have HB := Lib.hid hB; have H0 := Lib.hid h
  clear h hW hB hr c0 c2 c3 c4 c5 hx hft hp
  go_enter Try.func18, Try.ntmps18
  go_upto_region 1 with fail
  rw [← HW.out]
  go_upto_region 3 with fail
  go_region_with (go_at_call 119; (with_reducible refine hdd.mono ?_); rintro e w4 ⟨v', rfl, hO, hM⟩; have H4 := Lib.hid (And.intro hO hM); clear hO hM)
  all_goals
    go_wp2_with fail
    go_ret
    have hM : Mv w w4 (Se.F s v) (Se.F s v') := (Mv.of_below _ (pw_below_drewN HB.out 1)).trans H4.out.2
    exact ⟨Se.F s v', rfl, .se ⟨H0.out.vx.mv hM (fun k hk => (H0.out.tb.lt k hk).1) H0.out.ne, H4.out.1⟩, hM⟩
set_option maxRecDepth 100000 in
set_option maxHeartbeats 4000000 in
theorem do_se_del {w0 w : World} {a s : Nat} {n : Int} {x : Ex} {l : L4} {v : Value} (h : AgS w0 w a s n x l v) (key fr to_ : Int) (hx : Se.Wf ⟨key, fr, to_, 0⟩) (hft : fr ≤ to_) (hp : Se.has l (key, fr, to_) = true) :
    Calls Try.prog 18 #[.pointer (some ⟨a, 0, none⟩), .agg #[.int .i64 key, .int .i64 fr, .int .i64 to_, .int .i64 0, .bool true]] w (DoR w0 w a n x (.se (Se.doL ⟨key, fr, to_, 0⟩ true l)) (Se.F s v)) := by
  obtain ⟨W, hW⟩ : ∃ W, W = w.alloc (.cells #[.int .i64 key, .int .i64 fr, .int .i64 to_, .int .i64 0, .bool true] 50) := ⟨_, rfl⟩
  have hB : Below w.heap.size w W := by rw [hW]; exact below_alloc (Below.refl _ _) _
  have hr : W.heap[w.heap.size]? = some (.cells #[.int .i64 key, .int .i64 fr, .int .i64 to_, .int .i64 0, .bool true] 50 (0, 0)) := by rw [hW]; exact (Go.MapKept.heap_alloc w _).1
  obtain ⟨kA, kc, c0, c2, c3, c4, c5, c6, _⟩ := (h.below hB).vx.cells
  have x0 : W.cell? ⟨w.heap.size, 0, none⟩ = some (.int .i64 key) := (blk_cell hr 0).trans rfl
  have x1 : W.cell? ⟨w.heap.size, 1, none⟩ = some (.int .i64 fr) := (blk_cell hr 1).trans rfl
  have x2 : W.cell? ⟨w.heap.size, 2, none⟩ = some (.int .i64 to_) := (blk_cell hr 2).trans rfl
  have x3 : W.cell? ⟨w.heap.size, 3, none⟩ = some (.int .i64 0) := (blk_cell hr 3).trans rfl
  have x4 : W.cell? ⟨w.heap.size, 4, none⟩ = some (.bool true) := (blk_cell hr 4).trans rfl
  have hdd := Se.do_del ((h.below hB).tb.below (below_drew (Below.refl W.heap.size W))) key fr to_ 0 hx hft rfl hp
  have hm := fun d w => meth_do_se d s w
  have HW := Lib.hid hW; have HB := Lib.hid hB; have H0 := Lib.hid h
  clear h hW hB hr c0 c2 c3 c4 c5 hx hft hp
  go_enter Try.func18, Try.ntmps18
  go_upto_region 1 with fail
  rw [← HW.out]
  go_upto_region 3 with fail
  go_region_with (go_at_call 119; (with_reducible refine hdd.mono ?_); rintro e w4 ⟨v', rfl, hO, hM⟩; have H4 := Lib.hid (And.intro hO hM); clear hO hM)
  all_goals
    go_wp2_with fail
    go_ret
    have hM : Mv w w4 (Se.F s v) (Se.F s v') := (Mv.of_below _ (pw_below_drewN HB.out 1)).trans H4.out.2
    exact ⟨Se.F s v', rfl, .se ⟨H0.out.vx.mv hM (fun k hk => (H0.out.tb.lt k hk).1) H0.out.ne, H4.out.1⟩, hM⟩
/-! Expire -/
theorem assert_kv_win (s : Nat) (w : World) : (Instr.typeAssert (ifKv s) 60 75 true).run Try.prog w = .ok (.tuple #[.pointer none, .bool false]) w := by kernel_rfl
theorem assert_kv_se (s : Nat) (w : World) : (Instr.typeAssert (ifKv s) 60 76 true).run Try.prog w = .ok (.tuple #[.pointer none, .bool false]) w := by kernel_rfl
/-- What expires, and what is left. -/
def expT (n mark : Int) : Tb → List T5 × Tb
  | .kv l => ([], .kv l)
  | .win m => if mark < 0 then ([], .win m) else (Win.outT n (mark - n) m, .win (Win.restM n (mark - n) m))
  | .se l => (Se.endL n mark l, .se (SlD.kept (Se.endedB n mark) l))
def ExO (w0 w : World) (a : Nat) (n : Int) (x : Ex) (F : Nat → Prop) (r : List T5 × Tb) (e : Ending) (w' : World) : Prop :=
  ∃ u F', e = .returned u ∧ Row5 w' w.heap.size u r.1 ∧ AgO w0 w' a n x r.2 F' ∧ Mv w w' F F'
set_option maxHeartbeats 4000000 in
theorem expire_kv {w0 w : World} {a s : Nat} {n : Int} {x : Ex} {l : Kv.L2} {v : Value} (h : AgK w0 w a s n x l v) (mark : Int) :
    Calls Try.prog 16 #[.pointer (some ⟨a, 0, none⟩), .int .i64 mark] w fun e w' => e = .returned (.slice none 0 0) ∧ w' = w := by
  obtain ⟨kA, kc, c0, c2, c3, c4, c5, c6, _⟩ := h.vx.cells
  have hta := assert_kv_win s
  have htb := assert_kv_se s
  clear h c0 c2 c3 c4 c5
  go_enter Try.func16, Try.ntmps16
  go_wp2_with fail
  go_ret
  exact ⟨rfl, rfl⟩
set_option maxHeartbeats 4000000 in
theorem expire_win_neg {w0 w : World} {a s b : Nat} {n : Int} {x : Ex} {m : St} (h : AgW w0 w a s b n x m) (mark : Int) (hm : mark < 0) :
    Calls Try.prog 16 #[.pointer (some ⟨a, 0, none⟩), .int .i64 mark] w fun e w' => e = .returned (.slice none 0 0) ∧ w' = w := by
  obtain ⟨kA, kc, c0, c2, c3, c4, c5, c6, _⟩ := h.vx.cells
  have hta := assert_win s
  clear h c0 c2 c3 c4 c5
  go_enter Try.func16, Try.ntmps16
  go_wp2_with fail
  go_ret
  exact ⟨rfl, rfl⟩
set_option maxHeartbeats 4000000 in
theorem expire_se {w0 w : World} {a s : Nat} {n : Int} {x : Ex} {l : L4} {v : Value} (h : AgS w0 w a s n x l v) (mark : Int) :
    Calls Try.prog 16 #[.pointer (some ⟨a, 0, none⟩), .int .i64 mark] w (Se.ExpP w w0.heap.size s 1024 n mark l v) := by
  obtain ⟨kA, kc, c0, c2, c3, c4, c5, c6, _⟩ := h.vx.cells
  have hta := assert_se_win s
  have htb := assert_se s
  have hex := Se.expire_calls h.tb mark
  unfold Se.ExpP at hex ⊢
  clear h c0 c2 c3 c4 c5
  go_enter Try.func16, Try.ntmps16
  go_wp2_with fail
  refine hex.mono ?_
  rintro e w1 ⟨u, v', rfl, hR, hO, hM⟩
  have HF := Lib.hid (And.intro hR (And.intro hO hM))
  clear hex hR hO hM
  go_wp2_with fail
  go_ret
  exact ⟨u, v', rfl, HF.out⟩
theorem expire_o {w0 w : World} {a : Nat} {n : Int} {x : Ex} {t : Tb} {F : Nat → Prop} (h : AgO w0 w a n x t F) (mark : Int) (hm : mark ≤ 9223372036854775807) :
    Calls Try.prog 16 #[.pointer (some ⟨a, 0, none⟩), .int .i64 mark] w (ExO w0 w a n x F (expT n mark t)) := by
  cases h with
  | kv h =>
    refine (expire_kv h mark).mono ?_
    rintro e w' ⟨rfl, rfl⟩
    exact ⟨_, _, rfl, Kd.R_nil _ _ _ _ _, .kv h, Mv.refl _ _⟩
  | @win s b m h =>
    by_cases h0 : mark < 0
    · have e : expT n mark (.win m) = ([], .win m) := if_pos h0
      rw [e]
      refine (expire_win_neg h mark h0).mono ?_
      rintro e w' ⟨rfl, rfl⟩
      exact ⟨_, _, rfl, Kd.R_nil _ _ _ _ _, .win h, Mv.refl _ _⟩
    · have e : expT n mark (.win m) = (Win.outT n (mark - n) m, .win (Win.restM n (mark - n) m)) := if_neg h0
      rw [e]
      refine (expire_win h mark (by omega)).mono ?_
      rintro e w' ⟨u, rfl, hR, hA, hM⟩
      exact ⟨u, _, rfl, hR, .win hA, hM⟩
  | se h =>
    refine (expire_se h mark).mono ?_
    rintro e w' ⟨u, v', rfl, hR, hO, hM⟩
    exact ⟨u, _, rfl, hR, .se ⟨h.vx.mv hM (fun k hk => (h.tb.lt k hk).1) h.ne, hO⟩, hM⟩
end Go.Proofs.Ytanhibhcmfmeeaa.Ag
/- What a store tells of its changes, done in another one, makes the same: plain. -/
namespace Go.Proofs.Ytanhibhcmfmeeaa.Ag
open Go.RowKit Go.Proofs.YtanhibhcmfmeeaaW.PrintWords Go.Proofs.YtanhibhcmfmeeaaW.PrintMore Go.Proofs.Ytanhibhcmfmeeaa.Cut Go.Proofs.Ytanhibhcmfmeeaa.Fr Go.Proofs.Ytanhibhcmfmeeaa.SlK Go.Proofs.Ytanhibhcmfmeeaa.Ex
open Go.Proofs.Ytanhibhcmfmeeaa.Win (St P2 startF)
open Go.Proofs.Ytanhibhcmfmeeaa.Se (L4 S4)
def okT (n : Int) (c : T5) : Tb → Prop
  | .kv l => c.2.1 = 0 ∧ c.2.2.1 = 0 ∧ c.2.2.2.2 = false ∧ (Kv.look l c.1 = none → l.length < 1024)
  | .win m => Ex.W64 c.1 ∧ Ex.W64 c.2.1 ∧ Ex.W64 c.2.2.2.1 ∧ 0 ≤ c.2.1 ∧ startF n c.2.1 = c.2.1 ∧ c.2.2.1 = c.2.1 + n ∧ (c.2.2.2.2 = true → c.2.2.2.1 = 0 ∧ (Win.look m (c.2.1, c.1)).isSome = true) ∧ (c.2.2.2.2 = false → Win.look m (c.2.1, c.1) = none → m.length < 1024)
  | .se l => Se.Wf ⟨c.1, c.2.1, c.2.2.1, c.2.2.2.1⟩ ∧ c.2.1 ≤ c.2.2.1 ∧ (c.2.2.2.2 = true → c.2.2.2.1 = 0 ∧ Se.has l (c.1, c.2.1, c.2.2.1) = true) ∧ (c.2.2.2.2 = false → Se.has l (c.1, c.2.1, c.2.2.1) = false → l.length < 1024)
def doT (c : T5) : Tb → Tb
  | .kv l => .kv (Kv.putL c.1 c.2.2.2.1 l)
  | .win m => .win (if c.2.2.2.2 = true then Win.del (c.2.1, c.1) m else Win.put (c.2.1, c.1) c.2.2.2.1 m)
  | .se l => .se (Se.doL ⟨c.1, c.2.1, c.2.2.1, c.2.2.2.1⟩ c.2.2.2.2 l)
theorem do_o {w0 w : World} {a : Nat} {n : Int} {x : Ex} {t : Tb} {F : Nat → Prop} (h : AgO w0 w a n x t F) (c : T5) (ho : okT n c t) :
    Calls Try.prog 18 #[.pointer (some ⟨a, 0, none⟩), .agg (encC c).toArray] w (DoR w0 w a n x (doT c t) F) := by
  obtain ⟨key, fr, to_, val, del⟩ := c
  cases h with
  | kv h =>
    obtain ⟨h1, h2, h3, h4⟩ := ho
    simp only at h1 h2 h3 h4
    subst h1 h2 h3
    exact do_kv h key val h4
  | win h =>
    obtain ⟨h1, h2, h3, h4, h5, h6, h7, h8⟩ := ho
    simp only at h1 h2 h3 h4 h5 h6 h7 h8
    subst h6
    cases del with
    | true =>
      obtain ⟨rfl, h9⟩ := h7 rfl
      exact do_win_del h key fr h1 h2 h4 h5 h9
    | false => exact do_win_put h key fr val h1 h3 h2 h4 h5 (h8 rfl)
  | se h =>
    obtain ⟨h1, h2, h3, h4⟩ := ho
    simp only at h1 h2 h3 h4
    cases del with
    | true =>
      obtain ⟨rfl, h9⟩ := h3 rfl
      exact do_se_del h key fr to_ h1 h2 h9
    | false => exact do_se_put h key fr to_ val h1 h2 (h4 rfl)
inductive Run (n : Int) : Tb → List T5 → Tb → Prop where
  | nil (t : Tb) : Run n t [] t
  | cons {t t' : Tb} {c : T5} {cs : List T5} (h : okT n c t) (r : Run n (doT c t) cs t') : Run n t (c :: cs) t'
theorem Run.app {n : Int} {t t' t'' : Tb} {cs ds : List T5} (h : Run n t cs t') (g : Run n t' ds t'') : Run n t (cs ++ ds) t'' := by
  induction h with
  | nil t => exact g
  | cons h _ ih => exact .cons h (ih g)
/-! windows: what has ended -/
theorem run_win (n : Int) (hn : 1 ≤ n) (p : P2 × Int → Bool) : ∀ m : St, Win.Sorted m → (∀ x ∈ m, Win.W2 x.1 ∧ Win.W64 x.2 ∧ 0 ≤ x.1.1 ∧ startF n x.1.1 = x.1.1) → Run n (.win m) ((m.takeWhile p).map (Win.goneT n)) (.win (m.dropWhile p))
  | [], _, _ => .nil _
  | y :: r, hs, hw => by
    by_cases hp : p y = true
    · rw [List.takeWhile_cons_of_pos hp, List.dropWhile_cons_of_pos hp, List.map_cons]
      obtain ⟨h1, h2, h3, h4⟩ := hw y List.mem_cons_self
      have hd : Win.del y.1 (y :: r) = r := by
        have := Win.del_head hs (k := 0) (x := y) rfl
        simpa using this
      have hl : (Win.look (y :: r) y.1).isSome = true := by simp [Win.look]
      refine .cons ⟨h1.2, h1.1, w64_of (a := 0) (by decide), h3, h4, rfl, fun _ => ⟨rfl, hl⟩, fun e => by cases e⟩ ?_
      have e : doT (Win.goneT n y) (.win (y :: r)) = .win r := by
        show Tb.win (if (true : Bool) = true then Win.del (y.1.1, y.1.2) (y :: r) else _) = _
        rw [if_pos rfl, hd]
      rw [e]
      exact run_win n hn p r (List.pairwise_cons.1 hs).2 fun x hx => hw x (List.mem_cons_of_mem _ hx)
    · rw [List.takeWhile_cons_of_neg hp, List.dropWhile_cons_of_neg hp]
      exact .nil _
/-! sessions: what is taken away -/
theorem se_mem_eq {l : L4} (hs : Se.Sorted l) {x y : S4} (hx : x ∈ l) (hy : y ∈ l) (h : x.at = y.at) : x = y := by
  obtain ⟨i, hi⟩ := List.getElem?_of_mem hx
  obtain ⟨j, hj⟩ := List.getElem?_of_mem hy
  rcases Nat.lt_trichotomy i j with hlt | heq | hgt
  · exact absurd (h ▸ Se.pair_at hs hlt hi hj) (Se.ltS_irr _)
  · subst heq; rw [hi] at hj; exact Option.some.inj hj
  · exact absurd (h ▸ Se.pair_at hs hgt hj hi) (Se.ltS_irr _)
theorem delAt_eq {l : L4} (hs : Se.Sorted l) {d : S4} (hd : d ∈ l) : Se.delAt d.at l = l.filter fun x => decide (x ≠ d) := by
  refine Se.sorted_ext (List.Pairwise.sublist (Se.delAt_sub _ _) hs) (List.Pairwise.filter _ hs) fun y => ?_
  have hh : Se.has l d.at = true := Se.has_iff.2 ⟨d, hd, rfl⟩
  obtain ⟨z, hz, hza⟩ := Se.has_at hs hh
  obtain rfl : z = d := se_mem_eq hs (List.mem_of_getElem? hz) hd hza
  obtain ⟨hil, hiz⟩ := List.getElem?_eq_some_iff.1 hz
  rw [List.mem_filter]
  constructor
  · intro hy
    refine ⟨(Se.delAt_sub _ _).subset hy, decide_eq_true fun e => ?_⟩
    subst e
    unfold Se.delAt at hy
    rcases List.mem_append.1 hy with h | h
    · exact Se.ltS_irr _ ((Se.idx_parts y.at l hs).1 y h)
    · obtain ⟨j, hj⟩ := List.getElem?_of_mem h
      rw [List.getElem?_drop] at hj
      exact Se.ltS_irr _ (Se.pair_at hs (show Se.idx y.at l < Se.idx y.at l + 1 + j by omega) hz hj)
  · rintro ⟨hy, hne⟩
    have hne : y ≠ z := of_decide_eq_true hne
    have hl : l = l.take (Se.idx z.at l) ++ z :: l.drop (Se.idx z.at l + 1) := by
      conv => lhs; rw [← List.take_append_drop (Se.idx z.at l) l]
      rw [List.drop_eq_getElem_cons hil, hiz]
    rw [hl] at hy
    unfold Se.delAt
    rcases List.mem_append.1 hy with h | h
    · exact List.mem_append_left _ h
    · rcases List.mem_cons.1 h with h | h
      · exact absurd h hne
      · exact List.mem_append_right _ h
def Lq (l : L4) : Prop := ∀ x ∈ l, Se.Wf x ∧ x.fr ≤ x.to_
theorem run_dels (n : Int) : ∀ (ds l : L4), Se.Sorted l → Lq l → Se.Sorted ds → (∀ d ∈ ds, d ∈ l) → Run n (.se l) (ds.map Se.goneT) (.se (l.filter fun x => decide (x ∉ ds)))
  | [], l, _, _, _, _ => by
    have : l.filter (fun x => decide (x ∉ ([] : L4))) = l := List.filter_eq_self.2 fun x _ => by simp
    rw [this]; exact .nil _
  | d :: ds, l, hs, hq, hds, hsub => by
    have hd := hsub d List.mem_cons_self
    obtain ⟨h1, h2⟩ := List.pairwise_cons.1 hds
    rw [List.map_cons]
    have e : doT (Se.goneT d) (.se l) = .se (l.filter fun x => decide (x ≠ d)) := by
      rw [← delAt_eq hs hd]
      rfl
    refine .cons ⟨(hq d hd).1, (hq d hd).2, fun _ => ⟨rfl, Se.has_iff.2 ⟨d, hd, rfl⟩⟩, fun e => by cases e⟩ ?_
    rw [e]
    have ih := run_dels n ds (l.filter fun x => decide (x ≠ d)) (List.Pairwise.filter _ hs) (fun x hx => hq x (List.mem_filter.1 hx).1) h2 (fun x hx => List.mem_filter.2 ⟨hsub x (List.mem_cons_of_mem _ hx), decide_eq_true fun e => by
      subst e; exact Se.ltS_irr _ (h1 x hx)⟩)
    have e2 : (l.filter fun x => decide (x ≠ d)).filter (fun x => decide (x ∉ ds)) = l.filter fun x => decide (x ∉ d :: ds) := by
      rw [List.filter_filter]
      refine List.filter_congr fun x _ => ?_
      by_cases a : x = d <;> by_cases b : x ∈ ds <;> simp [a, b]
    rw [e2] at ih
    exact ih
theorem mem_setAt {l : L4} {z y : S4} (hs : Se.Sorted l) (h : Se.has l z.at = true) : y ∈ Se.setAt z l ↔ y = z ∨ y ∈ l ∧ y.at ≠ z.at := by
  obtain ⟨u, hu, hua⟩ := Se.has_at hs h
  obtain ⟨hil, hiu⟩ := List.getElem?_eq_some_iff.1 hu
  unfold Se.setAt
  constructor
  · intro hy
    obtain ⟨j, hj⟩ := List.getElem?_of_mem hy
    rw [List.getElem?_set] at hj
    by_cases e : Se.idx z.at l = j
    · rw [if_pos e, if_pos (by omega)] at hj
      exact .inl (Option.some.inj hj).symm
    · rw [if_neg e] at hj
      refine .inr ⟨List.mem_of_getElem? hj, fun ha => ?_⟩
      have : y = u := se_mem_eq hs (List.mem_of_getElem? hj) (List.mem_of_getElem? hu) (ha.trans hua.symm)
      subst this
      rcases Nat.lt_or_gt_of_ne e with hlt | hgt
      · exact Se.ltS_irr _ (Se.pair_at hs hlt hu hj)
      · exact Se.ltS_irr _ (Se.pair_at hs hgt hj hu)
  · rintro (rfl | ⟨hy, ha⟩)
    · exact List.mem_set hil _
    · obtain ⟨j, hj⟩ := List.getElem?_of_mem hy
      have e : Se.idx z.at l ≠ j := fun e => by
        subst e
        rw [hu] at hj
        exact ha (by rw [← Option.some.inj hj]; exact hua)
      exact List.mem_of_getElem? (i := j) (by rw [List.getElem?_set, if_neg e]; exact hj)
end Go.Proofs.Ytanhibhcmfmeeaa.Ag
/- What a store tells of its changes, done in another one, makes the same: what expires; what is put. -/
namespace Go.Proofs.Ytanhibhcmfmeeaa.Ag
open Go.RowKit Go.Proofs.YtanhibhcmfmeeaaW.PrintWords Go.Proofs.YtanhibhcmfmeeaaW.PrintMore Go.Proofs.Ytanhibhcmfmeeaa.Cut Go.Proofs.Ytanhibhcmfmeeaa.Fr Go.Proofs.Ytanhibhcmfmeeaa.SlK Go.Proofs.Ytanhibhcmfmeeaa.Ex
open Go.Proofs.Ytanhibhcmfmeeaa.Win (St P2 startF)
open Go.Proofs.Ytanhibhcmfmeeaa.Se (L4 S4)
/-- What is kept of a table besides its order. -/
def Tb.Iv (n : Int) : Tb → Prop
  | .kv _ => True
  | .win m => ∀ x ∈ m, Win.W2 x.1 ∧ Win.W64 x.2 ∧ 0 ≤ x.1.1 ∧ startF n x.1.1 = x.1.1
  | .se l => Lq l ∧ 1 ≤ n ∧ l.length ≤ 1024
theorem exp_run {n : Int} {t : Tb} (hs : t.Sd) (hi : t.Iv n) (hn : t.kind ≠ 6 → 1 ≤ n) (mark : Int) : Run n t (expT n mark t).1 (expT n mark t).2 := by
  cases t with
  | kv l => exact .nil _
  | win m =>
    unfold expT
    by_cases h0 : mark < 0
    · simp only [if_pos h0]; exact .nil _
    · simp only [if_neg h0]; exact run_win n (hn (show (7 : Int) ≠ 6 by decide)) _ m hs hi
  | se l =>
    have h := run_dels n (l.filter (Se.endedB n mark)) l hs hi.1 (List.Pairwise.filter _ hs) (fun d hd => (List.mem_filter.1 hd).1)
    have e : (l.filter fun x => decide (x ∉ l.filter (Se.endedB n mark))) = SlD.kept (Se.endedB n mark) l := by
      unfold SlD.kept
      refine List.filter_congr fun x hx => ?_
      cases hb : Se.endedB n mark x with
      | true => exact decide_eq_false (fun h => h (List.mem_filter.2 ⟨hx, hb⟩))
      | false =>
        refine decide_eq_true fun h => ?_
        have := (List.mem_filter.1 h).2
        rw [hb] at this; cases this
    rw [e] at h
    exact h
theorem exp_iv {n : Int} {t : Tb} (hi : t.Iv n) (mark : Int) : (expT n mark t).2.Iv n := by
  cases t with
  | kv l => trivial
  | win m =>
    unfold expT
    by_cases h0 : mark < 0
    · simp only [if_pos h0]; exact hi
    · simp only [if_neg h0]
      intro x hx
      exact hi x ((List.dropWhile_sublist _).subset hx)
  | se l =>
    exact ⟨fun x hx => hi.1 x (List.mem_filter.1 hx).1, hi.2.1, Nat.le_trans (SlD.kept_len _ _) hi.2.2⟩
theorem exp_len (n mark : Int) (t : Tb) : (expT n mark t).2.len ≤ t.len ∧ (expT n mark t).1.length ≤ t.len := by
  cases t with
  | kv l => exact ⟨Nat.le_refl _, Nat.zero_le _⟩
  | win m =>
    unfold expT
    by_cases h0 : mark < 0
    · simp only [if_pos h0]; exact ⟨Nat.le_refl _, Nat.zero_le _⟩
    · simp only [if_neg h0]
      exact ⟨(List.dropWhile_sublist _).length_le, by unfold Win.outT; rw [List.length_map]; exact (List.takeWhile_sublist _).length_le⟩
  | se l => exact ⟨SlD.kept_len _ _, Se.endL_len _ _ _⟩
theorem exp_vw {n : Int} {t : Tb} (h : t.Vw) (mark : Int) : (expT n mark t).2.Vw := by
  cases t with
  | kv l => exact h
  | win m =>
    unfold expT
    by_cases h0 : mark < 0
    · simp only [if_pos h0]; exact h
    · simp only [if_neg h0]; exact fun p hp => h p ((List.dropWhile_sublist _).subset hp)
  | se l => exact fun p hp => h p (List.mem_filter.1 hp).1
/-! sessions: what is put -/
def samS (n key time : Int) (l : L4) (x : S4) : Bool := decide (x.fr = Se.firstF n key time l ∧ x.to_ = Se.lastF n key time l)
def offS (n key time : Int) (l : L4) : L4 := (Se.hits n key time l).filter fun x => !samS n key time l x
theorem out_off (n key time val : Int) (l : L4) : Se.outT n key time val l = (offS n key time l).map Se.goneT ++ [Se.chgT (Se.newS n key time val l)] := rfl
theorem put_do {n key time val : Int} {l : L4} (hs : Se.Sorted l) (hq : Lq l) (hn : 1 ≤ n) (ht : 0 ≤ time ∧ time ≤ 1099511627776) :
    Se.doL (Se.newS n key time val l) false (l.filter fun x => decide (x ∉ offS n key time l)) = Se.putL n key time val l := by
  obtain ⟨z, hz⟩ : ∃ z, z = Se.newS n key time val l := ⟨_, rfl⟩
  have hfar := Se.new_far n key time val l hn (fun x hx => (hq x hx).1) ht
  have hza : z.at = (key, Se.firstF n key time l, Se.lastF n key time l) := by rw [hz]; rfl
  obtain ⟨l1, hl1⟩ : ∃ l1, l1 = l.filter fun x => decide (x ∉ offS n key time l) := ⟨_, rfl⟩
  have hs1 : Se.Sorted l1 := by rw [hl1]; exact List.Pairwise.filter _ hs
  have hm1 : ∀ y, y ∈ l1 ↔ y ∈ l ∧ y ∉ offS n key time l := fun y => by rw [hl1, List.mem_filter]; simp
  have hkey : ∀ y, y ∈ l1 ∧ y.at ≠ z.at ↔ y ∈ Se.stay n key time l := fun y => by
    rw [hm1, Se.mem_stay]
    constructor
    · rintro ⟨⟨h1, h2⟩, h3⟩
      refine ⟨h1, ?_⟩
      cases ht : Se.touchB n key time y with
      | false => rfl
      | true =>
        exfalso
        have hh : y ∈ Se.hits n key time l := Se.mem_hits.2 ⟨h1, ht⟩
        have hsam : samS n key time l y = true := by
          cases hb : samS n key time l y with
          | true => rfl
          | false => exact absurd (List.mem_filter.2 ⟨hh, by rw [hb]; rfl⟩) h2
        have h4 := of_decide_eq_true hsam
        have h5 : y.key = key := (of_decide_eq_true ht).1
        apply h3
        rw [hza]
        show (y.key, y.fr, y.to_) = _
        rw [h5, h4.1, h4.2]
    · rintro ⟨h1, h2⟩
      refine ⟨⟨h1, fun h => ?_⟩, fun ha => ?_⟩
      · have := (Se.mem_hits.1 (List.mem_filter.1 h).1).2
        rw [h2] at this; cases this
      · have : Se.has (Se.stay n key time l) z.at = true := Se.has_iff.2 ⟨y, Se.mem_stay.2 ⟨h1, h2⟩, ha⟩
        rw [hz, hfar] at this; cases this
  have hsp : Se.Sorted (Se.insS z (Se.stay n key time l)) := Se.sorted_ins (Se.sorted_stay hs) (by rw [hz]; exact hfar)
  unfold Se.putL
  rw [← hz, ← hl1]
  unfold Se.doL
  rw [if_neg (by decide)]
  cases hh : Se.has l1 z.at with
  | true =>
    rw [if_pos rfl]
    refine Se.sorted_ext (Se.sorted_set hs1 hh) hsp fun y => ?_
    rw [mem_setAt hs1 hh, Se.mem_ins, hkey]
  | false =>
    rw [if_neg (by decide)]
    refine Se.sorted_ext (Se.sorted_ins hs1 hh) hsp fun y => ?_
    rw [Se.mem_ins, Se.mem_ins, ← hkey]
    constructor
    · rintro (h | h)
      · exact .inl h
      · refine .inr ⟨h, fun ha => ?_⟩
        have : Se.has l1 z.at = true := Se.has_iff.2 ⟨y, h, ha⟩
        rw [hh] at this; cases this
    · rintro (h | h)
      · exact .inl h
      · exact .inr h.1
theorem put_run {n : Int} {t t' : Tb} {key time rn : Int} {chs : List T5} (hs : t.Sd) (hi : t.Iv n) (hn : t.kind ≠ 6 → 1 ≤ n) (ht : 0 ≤ time ∧ time ≤ 1099511627776) (hk : Ex.W64 key) (hr : Ex.W64 rn) (e : putT n t key time rn = some (chs, t')) : Run n t chs t' ∧ t'.Iv n := by
  cases t with
  | kv l =>
    rw [putT_kv] at e
    split at e
    · cases e
    · rename_i hf
      obtain ⟨rfl, rfl⟩ := Prod.mk.inj (Option.some.inj e)
      exact ⟨.cons ⟨rfl, rfl, rfl, fun h => Nat.lt_of_not_le fun h2 => hf ⟨h, h2⟩⟩ (.nil _), trivial⟩
  | win m =>
    have hn1 : 1 ≤ n := hn (show (7 : Int) ≠ 6 by decide)
    rw [putT_win] at e
    split at e
    · cases e
    · rename_i hf
      obtain ⟨rfl, rfl⟩ := Prod.mk.inj (Option.some.inj e)
      have h0 := (start_facts hn1 ht.1 ht.2).2.1
      have hw := start_w64 (time := time) hn1
      have hid := Win.startF_idem hn1 h0
      refine ⟨.cons ⟨hk, hw, hr, h0, hid, rfl, (fun h => by cases h), fun _ h => Nat.lt_of_not_le fun h2 => hf ⟨h, h2⟩⟩ (.nil _), fun x hx => ?_⟩
      rcases Win.mem_put hx with rfl | h
      · exact ⟨⟨hw, hk⟩, hr, h0, hid⟩
      · exact hi x h
  | se l =>
    rw [putT_se] at e
    split at e
    · cases e
    · rename_i hf
      obtain ⟨rfl, rfl⟩ := Prod.mk.inj (Option.some.inj e)
      obtain ⟨hq, hn1, hle⟩ := hi
      have hwf : ∀ x ∈ l, Se.Wf x := fun x hx => (hq x hx).1
      have hnw := Se.new_wf n key time rn l hwf ht
      obtain ⟨_, _, e1, e2⟩ := Se.ends_wf n key time l hwf ht
      have hsub : ∀ d ∈ offS n key time l, d ∈ l := fun d hd => (Se.mem_hits.1 (List.mem_filter.1 hd).1).1
      have hdels := run_dels n (offS n key time l) l hs hq (List.Pairwise.filter _ (List.Pairwise.filter _ hs)) hsub
      rw [out_off]
      have hst := Se.stay_len n key time l
      have hstl : (Se.stay n key time l).length < 1024 := by
        by_cases hh : Se.hits n key time l = []
        · have := fun h2 => hf ⟨hh, h2⟩
          have h3 : l.length < 1024 := Nat.lt_of_not_le this
          omega
        · have := List.length_pos_iff.2 hh
          omega
      refine ⟨hdels.app (.cons ⟨hnw, by show Se.firstF n key time l ≤ Se.lastF n key time l; omega, (fun h => by cases h), fun _ hh => ?_⟩ ?_), ?_⟩
      · have hfar := Se.new_far n key time rn l hn1 hwf ht
        have hsub2 : ∀ y ∈ l.filter (fun x => decide (x ∉ offS n key time l)), y ∈ Se.stay n key time l := fun y hy => by
          obtain ⟨h1, h2⟩ := List.mem_filter.1 hy
          have h2 : y ∉ offS n key time l := of_decide_eq_true h2
          refine Se.mem_stay.2 ⟨h1, ?_⟩
          cases htc : Se.touchB n key time y with
          | false => rfl
          | true =>
            exfalso
            have hsam : samS n key time l y = true := by
              cases hb : samS n key time l y with
              | true => rfl
              | false => exact absurd (List.mem_filter.2 ⟨Se.mem_hits.2 ⟨h1, htc⟩, by rw [hb]; rfl⟩) h2
            have h4 := of_decide_eq_true hsam
            have h5 : y.key = key := (of_decide_eq_true htc).1
            have : Se.has (l.filter (fun x => decide (x ∉ offS n key time l))) (key, Se.firstF n key time l, Se.lastF n key time l) = true := Se.has_iff.2 ⟨y, hy, by show (y.key, y.fr, y.to_) = _; rw [h5, h4.1, h4.2]⟩
            have hh : Se.has (l.filter (fun x => decide (x ∉ offS n key time l))) (key, Se.firstF n key time l, Se.lastF n key time l) = false := hh
            rw [hh] at this; cases this
        have heq : l.filter (fun x => decide (x ∉ offS n key time l)) = Se.stay n key time l := by
          refine Se.sorted_ext (List.Pairwise.filter _ hs) (Se.sorted_stay hs) fun y => ⟨hsub2 y, fun hy => ?_⟩
          obtain ⟨h1, h2⟩ := Se.mem_stay.1 hy
          exact List.mem_filter.2 ⟨h1, decide_eq_true fun h => by
            have := (Se.mem_hits.1 (List.mem_filter.1 h).1).2
            rw [h2] at this; cases this⟩
        rw [heq]; exact hstl
      · have : doT (Se.chgT (Se.newS n key time rn l)) (.se (l.filter fun x => decide (x ∉ offS n key time l))) = .se (Se.putL n key time rn l) := by
          rw [← put_do (val := rn) hs hq hn1 ht]
          rfl
        rw [this]; exact .nil _
      · refine ⟨fun x hx => ?_, hn1, ?_⟩
        · rcases (Se.mem_ins _ _ _).1 hx with rfl | h
          · exact ⟨hnw, by show Se.firstF n key time l ≤ Se.lastF n key time l; omega⟩
          · exact hq x (Se.mem_stay.1 h).1
        · show (Se.insS _ _).length ≤ 1024
          rw [Se.len_ins]; omega
end Go.Proofs.Ytanhibhcmfmeeaa.Ag
