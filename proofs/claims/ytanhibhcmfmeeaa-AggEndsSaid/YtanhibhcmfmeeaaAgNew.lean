import Derived.Test.YtanhibhcmfmeeaaAgKv
/- agg.New at a table of values; a nil store. -/
namespace Go.Proofs.Ytanhibhcmfmeeaa.Ag
open Go.RowKit Go.Proofs.YtanhibhcmfmeeaaW.PrintWords Go.Proofs.YtanhibhcmfmeeaaW.PrintMore Go.Proofs.Ytanhibhcmfmeeaa.Cut Go.Proofs.Ytanhibhcmfmeeaa.Fr Go.Proofs.Ytanhibhcmfmeeaa.SlK Go.Proofs.Ytanhibhcmfmeeaa.Ex
/-- A vertex that is handed over by value. -/
structure VxV (w : World) (kind n : Int) (x : Ex) (v : Value) : Prop where
  out : ∃ fA fn fc kA kc, v = .agg #[.int .i64 kind, .slice fA fn fc, .int .i64 x.op, .int .i64 x.n, .slice kA x.kids.length kc, .int .i64 n] ∧ ExV w x (.agg #[.int .i64 x.op, .int .i64 x.n, .slice kA x.kids.length kc])
theorem VxV.below {w w' : World} {kind n : Int} {x : Ex} {v : Value} (h : VxV w kind n x v) (hb : Below w.heap.size w w') : VxV w' kind n x v := by
  obtain ⟨fA, fn, fc, kA, kc, h1, h2⟩ := h.out
  exact ⟨fA, fn, fc, kA, kc, h1, h2.below hb⟩
def OpenKv (w : World) (B : Nat) (e : Ending) (w' : World) : Prop := ∃ s, e = .returned (.tuple #[ifKv s, .int .i64 0]) ∧ Kv.Own w' B s 1024 [] (.slice none 0 0) ∧ Below w.heap.size w w' ∧ w.heap.size ≤ s
set_option maxHeartbeats 4000000 in
theorem open_kv {w : World} {n : Int} {x : Ex} {v : Value} (h : VxV w 6 n x v) (B : Nat) (hB : B ≤ w.heap.size) : Calls Try.prog 21 #[v] w (OpenKv w B) := by
  obtain ⟨fA, fn, fc, kA, kc, rfl, hx⟩ := h.out
  have hb := below_alloc (Below.refl w.heap.size w) (.cells #[.int .i64 6, .slice fA fn fc, .int .i64 x.op, .int .i64 x.n, .slice kA x.kids.length kc, .int .i64 n] 33)
  have hn := Kv.new_calls 1024 (by decide) B _ (Nat.le_trans hB hb.size)
  have HB := Lib.hid hb
  clear h hx hb hB
  go_enter Try.func21, Try.ntmps21
  go_wp2_with ((with_reducible refine hn.mono ?_); rintro e w1 ⟨rfl, hO, hB1⟩)
  go_ret2
  have hsz : (w.alloc (.cells #[.int .i64 6, .slice fA fn fc, .int .i64 x.op, .int .i64 x.n, .slice kA x.kids.length kc, .int .i64 n] 33)).heap.size = w.heap.size + 1 := by simp
  exact ⟨w.heap.size + 1, rfl, by rw [← hsz]; exact hO, below_then HB.out HB.out.size hB1, by omega⟩
def NewKv (w : World) (n : Int) (x : Ex) (e : Ending) (w' : World) : Prop :=
  ∃ a s, e = .returned (.tuple #[.pointer (some ⟨a, 0, none⟩), .int .i64 0]) ∧ AgV w w' a 6 n x (ifKv s) ∧ Kv.Own w' w.heap.size s 1024 [] (.slice none 0 0) ∧ s < a
set_option maxHeartbeats 4000000 in
theorem new_kv {w : World} {n : Int} {x : Ex} {v : Value} (h : VxV w 6 n x v) (hm : mayE x = true) : Calls Try.prog 10 #[v] w (NewKv w n x) := by
  obtain ⟨fA, fn, fc, kA, kc, rfl, hx⟩ := h.out
  obtain ⟨W, hW⟩ : ∃ W, W = w.alloc (.cells #[.int .i64 6, .slice fA fn fc, .int .i64 x.op, .int .i64 x.n, .slice kA x.kids.length kc, .int .i64 n] 33) := ⟨_, rfl⟩
  have hb : Below w.heap.size w W := by rw [hW]; exact below_alloc (Below.refl w.heap.size w) _
  have hr : W.heap[w.heap.size]? = some (.cells #[.int .i64 6, .slice fA fn fc, .int .i64 x.op, .int .i64 x.n, .slice kA x.kids.length kc, .int .i64 n] 33 (0, 0)) := by rw [hW]; exact (Go.MapKept.heap_alloc w _).1
  have hM := May_calls x _ W (hx.below hb)
  rw [hm] at hM
  have c0 : W.cell? ⟨w.heap.size, 0, none⟩ = some (.int .i64 6) := (blk_cell hr 0).trans rfl
  have c1 : W.cell? ⟨w.heap.size, 1, none⟩ = some (.slice fA fn fc) := (blk_cell hr 1).trans rfl
  have c2 : W.cell? ⟨w.heap.size, 2, none⟩ = some (.int .i64 x.op) := (blk_cell hr 2).trans rfl
  have c3 : W.cell? ⟨w.heap.size, 3, none⟩ = some (.int .i64 x.n) := (blk_cell hr 3).trans rfl
  have c4 : W.cell? ⟨w.heap.size, 4, none⟩ = some (.slice kA x.kids.length kc) := (blk_cell hr 4).trans rfl
  have c5 : W.cell? ⟨w.heap.size, 5, none⟩ = some (.int .i64 n) := (blk_cell hr 5).trans rfl
  have ho := fun V (hV : Below w.heap.size w V) => open_kv (h.below hV) w.heap.size hV.size
  have HW := Lib.hid hW; have HB := Lib.hid hb; have HO := Lib.hid ho; have HX := Lib.hid hx
  have hw0 : w.heap.size < W.heap.size := (Array.getElem?_eq_some_iff.1 hr).1
  clear h hm hW hb ho hr hx
  go_enter Try.func10, Try.ntmps10
  go_upto_region 1 with fail
  rw [← HW.out]
  go_wp2_with fail
  refine hM.mono ?_
  rintro e w1 ⟨rfl, hB1⟩
  obtain ⟨k0, k1, k2, k3, k4, k5⟩ : w1.cell? ⟨w.heap.size, 0, none⟩ = some (.int .i64 6) ∧ w1.cell? ⟨w.heap.size, 1, none⟩ = some (.slice fA fn fc) ∧ w1.cell? ⟨w.heap.size, 2, none⟩ = some (.int .i64 x.op) ∧ w1.cell? ⟨w.heap.size, 3, none⟩ = some (.int .i64 x.n) ∧ w1.cell? ⟨w.heap.size, 4, none⟩ = some (.slice kA x.kids.length kc) ∧ w1.cell? ⟨w.heap.size, 5, none⟩ = some (.int .i64 n) := ⟨keepB hB1 c0, keepB hB1 c1, keepB hB1 c2, keepB hB1 c3, keepB hB1 c4, keepB hB1 c5⟩
  have hB2 := below_then HB.out HB.out.size hB1
  have ho := HO.out w1 hB2
  have HB2 := Lib.hid hB2
  clear c0 c1 c2 c3 c4 c5 hM hB1 hB2
  go_wp2_with fail
  refine ho.mono ?_
  rintro e w2 ⟨s, rfl, hK, hB3, hs⟩
  obtain ⟨c0, c1, c2, c3, c4, c5⟩ : w2.cell? ⟨w.heap.size, 0, none⟩ = some (.int .i64 6) ∧ w2.cell? ⟨w.heap.size, 1, none⟩ = some (.slice fA fn fc) ∧ w2.cell? ⟨w.heap.size, 2, none⟩ = some (.int .i64 x.op) ∧ w2.cell? ⟨w.heap.size, 3, none⟩ = some (.int .i64 x.n) ∧ w2.cell? ⟨w.heap.size, 4, none⟩ = some (.slice kA x.kids.length kc) ∧ w2.cell? ⟨w.heap.size, 5, none⟩ = some (.int .i64 n) := ⟨keepB hB3 k0, keepB hB3 k1, keepB hB3 k2, keepB hB3 k3, keepB hB3 k4, keepB hB3 k5⟩
  have hB4 := below_then HB2.out HB2.out.size hB3
  have HK := Lib.hid hK; have HB4 := Lib.hid hB4; have HS := Lib.hid hs
  clear ho hK hB3 hB4 hs k0 k1 k2 k3 k4 k5 HB2 HO HB HW
  go_wp2_with fail
  go_ret2
  have hB5 : Below w2.heap.size w2 (w2.alloc (.cells #[.int .i64 6, .slice fA fn fc, .int .i64 x.op, .int .i64 x.n, .slice kA x.kids.length kc, .int .i64 n, ifKv s] 64)) := below_alloc (Below.refl _ _) _
  exact ⟨_, s, rfl, ⟨below_then HB4.out HB4.out.size hB5, HB4.out.size, fA, fn, fc, kA, kc, (Go.MapKept.heap_alloc w2 _).1, HX.out⟩, HK.out.below hB5, (HK.out.lt s (.inl rfl)).2⟩
/-! a nil store -/
set_option maxHeartbeats 1000000 in
theorem value_nil (key : Int) (w : World) : Calls Try.prog 13 #[.pointer none, .int .i64 key] w fun e w' => e = .returned (.int .i64 0) ∧ w = w' := by
  go_enter Try.func13, Try.ntmps13
  go_wp2
  go_ret
  exact ⟨rfl, rfl⟩
set_option maxHeartbeats 1000000 in
theorem late_nil (key val time mark : Int) (w : World) : Calls Try.prog 17 #[.pointer none, recV key val time, .int .i64 mark] w fun e w' => e = .returned (.bool false) ∧ Below w.heap.size w w' := by
  unfold recV
  go_enter Try.func17, Try.ntmps17
  go_wp2
  go_ret
  exact ⟨rfl, below_alloc (Below.refl _ _) _⟩
set_option maxHeartbeats 1000000 in
theorem expire_nil (mark : Int) (w : World) : Calls Try.prog 16 #[.pointer none, .int .i64 mark] w fun e w' => e = .returned (.slice none 0 0) ∧ w = w' := by
  go_enter Try.func16, Try.ntmps16
  go_wp2
  go_ret
  exact ⟨rfl, rfl⟩
set_option maxHeartbeats 1000000 in
theorem do_nil (x : T5) (w : World) : Calls Try.prog 18 #[.pointer none, .agg (encC x).toArray] w fun e w' => e = .returned (.int .i64 3) ∧ Below w.heap.size w w' := by
  unfold encC
  go_enter Try.func18, Try.ntmps18
  go_wp2
  go_ret
  exact ⟨rfl, below_alloc (Below.refl _ _) _⟩
set_option maxHeartbeats 1000000 in
theorem list_nil (w : World) : Calls Try.prog 15 #[.pointer none] w fun e w' => e = .returned (.slice none 0 0) ∧ w = w' := by
  go_enter Try.func15, Try.ntmps15
  go_wp2
  go_ret
  exact ⟨rfl, rfl⟩
end Go.Proofs.Ytanhibhcmfmeeaa.Ag
