import Derived.Test.YtanhibhcmfmeeaaAgO1
import Derived.Test.YtanhibhcmfmeeaaSePf
/- What a record puts where there is no room; whatever table: one object. -/
namespace Go.Proofs.Ytanhibhcmfmeeaa.Ag
open Go.RowKit Go.Proofs.YtanhibhcmfmeeaaW.PrintWords Go.Proofs.YtanhibhcmfmeeaaW.PrintMore Go.Proofs.Ytanhibhcmfmeeaa.Cut Go.Proofs.Ytanhibhcmfmeeaa.Fr Go.Proofs.Ytanhibhcmfmeeaa.SlK Go.Proofs.Ytanhibhcmfmeeaa.Ex
open Go.Proofs.Ytanhibhcmfmeeaa.Win (St P2 startF)
open Go.Proofs.Ytanhibhcmfmeeaa.Se (L4 S4)
abbrev z5 : T5 := (0, 0, 0, 0, false)
set_option maxHeartbeats 4000000 in
theorem put_kv_full {w0 w : World} {a s B : Nat} {kind n room : Int} {x : Ex} {l : Kv.L2} {v : Value} (h : AgV w0 w a kind n x (ifKv s)) (hO : Kv.Own w B s room l v) (key val time rn : Int) (hn : Kv.look l key = none) (hf : room ≤ (l.length : Int)) (V : World) (hV : Below w.heap.size w V) :
    Calls Try.prog 25 #[.pointer (some ⟨a, 0, none⟩), recV key val time, .int .i64 rn] V fun e w' => ∃ u, e = .returned (.tuple #[u, .int .i64 3]) ∧ Row5 w' V.heap.size u [z5] ∧ Below V.heap.size V w' := by
  unfold recV
  have hta := assert_kv s
  have hB := below_alloc (Below.refl V.heap.size V) (.cells #[.int .i64 key, .int .i64 val, .int .i64 time] 36)
  obtain ⟨kA, kc, c0, c2, c3, c4, c5, c6, hx⟩ := ((h.below hV).below hB).cells
  have hp := Kv.put_full ((hO.below hV).below hB) key rn hn hf
  have HB := Lib.hid hB
  unfold Kv.chgV at hp
  clear h hV c0 c2 c3 c4 c5 hx hB hO hf hn
  go_enter Try.func25, Try.ntmps25
  go_wp2_with fail
  refine hp.mono ?_
  rintro e w1 ⟨rfl, hB1⟩
  have HB1 := Lib.hid (below_then HB.out HB.out.size hB1)
  clear hp hB1
  go_wp2_with fail
  go_ret2
  have hB2 : Below w1.heap.size w1 (w1.alloc (.cells (encC z5).toArray 50)) := below_alloc (Below.refl _ _) _
  have hB3 := below_then hB2 hB2.size (below_alloc (Below.refl _ _) (.cells (encC z5).toArray 50))
  have hrow := own_lit5 (w1.alloc (.cells (encC z5).toArray 50)) V.heap.size z5 (by have := HB1.out.size; simp; omega)
  have hsz : (w1.alloc (.cells (encC z5).toArray 50)).heap.size = w1.heap.size + 1 := by simp
  rw [hsz] at hrow
  exact ⟨_, rfl, row5_one hrow, below_then HB1.out HB1.out.size hB3⟩
set_option maxHeartbeats 4000000 in
theorem put_win_full {w0 w : World} {a s b : Nat} {kind n room size : Int} {x : Ex} {m : St} (h : AgV w0 w a kind n x (ifWin s)) (hO : Win.Own w s room size b m) (key val time rn : Int) (hk : Win.W64 key) (h0 : 0 ≤ startF size time) (hn : Win.look m (startF size time, key) = none) (hf : room ≤ (m.length : Int)) (V : World) (hV : Below w.heap.size w V) :
    Calls Try.prog 25 #[.pointer (some ⟨a, 0, none⟩), recV key val time, .int .i64 rn] V fun e w' => ∃ u, e = .returned (.tuple #[u, .int .i64 3]) ∧ Row5 w' V.heap.size u [z5] ∧ Below V.heap.size V w' := by
  unfold recV
  have hta := assert_win_kv s
  have htb := assert_win s
  have hB := below_alloc (Below.refl V.heap.size V) (.cells #[.int .i64 key, .int .i64 val, .int .i64 time] 36)
  obtain ⟨kA, kc, c0, c2, c3, c4, c5, c6, hx⟩ := ((h.below hV).below hB).cells
  have hp := Win.put_full (win_below (win_below hO hV) hB) key time rn hk (start_w64 hO.rng.2.2.1) h0 hn hf
  have HB := Lib.hid hB
  unfold Win.zchg at hp
  clear h hV c0 c2 c3 c4 c5 hx hB hO hf h0 hn
  go_enter Try.func25, Try.ntmps25
  go_wp2_with fail
  refine hp.mono ?_
  rintro e w1 ⟨rfl, hg1⟩
  have hB1 : Below V.heap.size V w1 := pw_below_grown HB.out none HB.out.size hg1 (fun k e => by cases e)
  have HB1 := Lib.hid hB1
  clear hp hg1 hB1
  go_wp2_with fail
  go_ret2
  have hB2 : Below w1.heap.size w1 (w1.alloc (.cells (encC z5).toArray 50)) := below_alloc (Below.refl _ _) _
  have hB3 := below_then hB2 hB2.size (below_alloc (Below.refl _ _) (.cells (encC z5).toArray 50))
  have hrow := own_lit5 (w1.alloc (.cells (encC z5).toArray 50)) V.heap.size z5 (by have := HB1.out.size; simp; omega)
  have hsz : (w1.alloc (.cells (encC z5).toArray 50)).heap.size = w1.heap.size + 1 := by simp
  rw [hsz] at hrow
  exact ⟨_, rfl, row5_one hrow, below_then HB1.out HB1.out.size hB3⟩
set_option maxHeartbeats 4000000 in
theorem put_se_full {w0 w : World} {a s B : Nat} {kind n room gap : Int} {x : Ex} {l : L4} {v : Value} (h : AgV w0 w a kind n x (ifSe s)) (hO : Se.Own w B s room gap l v) (key val time rn : Int) (ht : mayT time = true) (hn : Se.hits gap key time l = []) (hf : room ≤ (l.length : Int)) (V : World) (hV : Below w.heap.size w V) :
    Calls Try.prog 25 #[.pointer (some ⟨a, 0, none⟩), recV key val time, .int .i64 rn] V fun e w' => ∃ u, e = .returned (.tuple #[u, .int .i64 3]) ∧ Row5 w' V.heap.size u [] ∧ Below V.heap.size V w' := by
  unfold recV
  have hta := assert_se_kv s
  have htb := assert_se_win s
  have htc := assert_se s
  have hB := below_alloc (Below.refl V.heap.size V) (.cells #[.int .i64 key, .int .i64 val, .int .i64 time] 36)
  obtain ⟨kA, kc, c0, c2, c3, c4, c5, c6, hx⟩ := ((h.below hV).below hB).cells
  have hp := Se.put_full ((hO.below hV).below hB) key time rn ht hn hf
  have HB := Lib.hid hB
  clear h hV c0 c2 c3 c4 c5 hx hB hO hf ht hn
  go_enter Try.func25, Try.ntmps25
  go_wp2_with fail
  refine hp.mono ?_
  rintro e w1 ⟨rfl, hB1⟩
  have HB1 := Lib.hid (below_then HB.out HB.out.size hB1)
  clear hp hB1
  go_wp2_with fail
  go_ret2
  exact ⟨_, rfl, Kd.R_nil _ _ _ _ _, HB1.out⟩
/-! one object -/
inductive Tb where
  | kv (l : Kv.L2)
  | win (m : St)
  | se (l : L4)
def Tb.kind : Tb → Int
  | .kv _ => 6
  | .win _ => 7
  | .se _ => 8
def Tb.len : Tb → Nat
  | .kv l => l.length
  | .win m => m.length
  | .se l => l.length
/-- What a record meets. -/
def gathT (n : Int) : Tb → Int → Int → Int
  | .kv l, key, _ => (Kv.look l key).getD 0
  | .win m, key, time => (Win.look m (startF n time, key)).getD 0
  | .se l, key, time => gathS n key time l
/-- What is put; none: there is no room. -/
def putT (n : Int) : Tb → Int → Int → Int → Option (List T5 × Tb)
  | .kv l, key, _, rn => if Kv.look l key = none ∧ 1024 ≤ l.length then none else some ([(key, 0, 0, rn, false)], .kv (Kv.putL key rn l))
  | .win m, key, time, rn => if Win.look m (startF n time, key) = none ∧ 1024 ≤ m.length then none else some ([winT n (startF n time) key rn], .win (Win.put (startF n time, key) rn m))
  | .se l, key, time, rn => if Se.hits n key time l = [] ∧ 1024 ≤ l.length then none else some (Se.outT n key time rn l, .se (Se.putL n key time rn l))
def listT (n : Int) : Tb → List T5
  | .kv l => l.map Kv.valT
  | .win m => Win.listT n m
  | .se l => l.map Se.chgT
/-- A vertex's store: the blocks that its table holds are F. -/
inductive AgO (w0 w : World) (a : Nat) (n : Int) (x : Ex) : Tb → (Nat → Prop) → Prop where
  | kv {s : Nat} {l : Kv.L2} {v : Value} (h : AgK w0 w a s n x l v) : AgO w0 w a n x (.kv l) (Kv.F s v)
  | win {s b : Nat} {m : St} (h : AgW w0 w a s b n x m) : AgO w0 w a n x (.win m) (Fw s b)
  | se {s : Nat} {l : L4} {v : Value} (h : AgS w0 w a s n x l v) : AgO w0 w a n x (.se l) (Se.F s v)
theorem AgO.below {w0 w w' : World} {a : Nat} {n : Int} {x : Ex} {t : Tb} {F : Nat → Prop} (h : AgO w0 w a n x t F) (hb : Below w.heap.size w w') : AgO w0 w' a n x t F := by
  cases h with
  | kv h => exact .kv (h.below hb)
  | win h => exact .win (h.below hb)
  | se h => exact .se (h.below hb)
theorem AgO.lt {w0 w : World} {a : Nat} {n : Int} {x : Ex} {t : Tb} {F : Nat → Prop} (h : AgO w0 w a n x t F) (k : Nat) (hk : F k) : w0.heap.size ≤ k ∧ k < w.heap.size := by
  cases h with
  | kv h => exact h.tb.lt k hk
  | win h =>
    rcases hk with rfl | rfl
    · exact ⟨h.bs, h.tb.lt.1⟩
    · exact ⟨h.bb, h.tb.lt.2.1⟩
  | se h => exact h.tb.lt k hk
theorem AgO.vx {w0 w : World} {a : Nat} {n : Int} {x : Ex} {t : Tb} {F : Nat → Prop} (h : AgO w0 w a n x t F) : ∃ tt p, AgV w0 w a t.kind n x (.iface tt (.pointer (some p))) := by
  cases h with
  | kv h => exact ⟨_, _, h.vx⟩
  | win h => exact ⟨_, _, h.vx⟩
  | se h => exact ⟨_, _, h.vx⟩
theorem AgO.alt {w0 w : World} {a : Nat} {n : Int} {x : Ex} {t : Tb} {F : Nat → Prop} (h : AgO w0 w a n x t F) : w0.heap.size ≤ a ∧ a < w.heap.size := by
  obtain ⟨tt, p, hv⟩ := h.vx
  exact ⟨hv.base, hv.lt⟩
theorem AgO.low {w0 w : World} {a : Nat} {n : Int} {x : Ex} {t : Tb} {F : Nat → Prop} (h : AgO w0 w a n x t F) : Below w0.heap.size w0 w := by
  obtain ⟨tt, p, hv⟩ := h.vx
  exact hv.low
theorem AgO.ne {w0 w : World} {a : Nat} {n : Int} {x : Ex} {t : Tb} {F : Nat → Prop} (h : AgO w0 w a n x t F) : ¬ F a := by
  cases h with
  | kv h => exact h.ne
  | win h => exact h.ne
  | se h => exact h.ne
/-- Blocks of other types are none of its table's. -/
theorem AgO.far {w0 w : World} {a : Nat} {n : Int} {x : Ex} {t : Tb} {F : Nat → Prop} (h : AgO w0 w a n x t F) {k : Nat} {cs : Array Value} {tt : TypeId} {fr : Nat × Nat} (hk : w.heap[k]? = some (.cells cs tt fr)) (h1 : tt ≠ 100 ∧ tt ≠ 97 ∧ tt ≠ 108 ∧ tt ≠ 115 ∧ tt ≠ 113) : ¬ F k := by
  cases h with
  | kv h => exact h.far hk h1.1 h1.2.1
  | win h => exact h.far hk h1.2.2.1
  | se h => exact h.far hk h1.2.2.2.1 h1.2.2.2.2
/-- Beside another step. -/
theorem AgO.mv {w0 w w' : World} {a : Nat} {n : Int} {x : Ex} {t : Tb} {F : Nat → Prop} (h : AgO w0 w a n x t F) {G G' : Nat → Prop} (hm : Mv w w' G G') (hG : ∀ k, G k → w0.heap.size ≤ k) (hF : ∀ k, F k → ¬ G k) (ha : ¬ G a) : AgO w0 w' a n x t F := by
  cases h with
  | kv h => exact .kv ⟨h.vx.mv hm hG ha, h.tb.mv hm hF⟩
  | win h => exact .win ⟨h.vx.mv hm hG ha, win_mv h.tb hm (hF _ (.inl rfl)) (hF _ (.inr rfl)), h.bs, h.bb⟩
  | se h => exact .se ⟨h.vx.mv hm hG ha, h.tb.mv hm hF⟩
theorem list_o {w0 w : World} {a : Nat} {n : Int} {x : Ex} {t : Tb} {F : Nat → Prop} (h : AgO w0 w a n x t F) : Calls Try.prog 15 #[.pointer (some ⟨a, 0, none⟩)] w (ListR w (listT n t)) := by
  cases h with
  | kv h => exact list_kv h
  | win h => exact list_win h
  | se h => exact list_se h
end Go.Proofs.Ytanhibhcmfmeeaa.Ag
