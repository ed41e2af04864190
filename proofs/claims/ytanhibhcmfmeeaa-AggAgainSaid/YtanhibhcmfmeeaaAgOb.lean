import Derived.Test.YtanhibhcmfmeeaaAgSum
import Derived.Test.YtanhibhcmfmeeaaAgWin
import Derived.Test.YtanhibhcmfmeeaaAgSes
import Derived.Test.YtanhibhcmfmeeaaSeC
import Derived.Test.YtanhibhcmfmeeaaKvLs
import Derived.Test.YtanhibhcmfmeeaaOpen
/- A vertex's store over whatever table: List. -/
namespace Go.Proofs.Ytanhibhcmfmeeaa.Ag
open Go.RowKit Go.Proofs.YtanhibhcmfmeeaaW.PrintWords Go.Proofs.YtanhibhcmfmeeaaW.PrintMore Go.Proofs.Ytanhibhcmfmeeaa.Cut Go.Proofs.Ytanhibhcmfmeeaa.Fr Go.Proofs.Ytanhibhcmfmeeaa.SlK Go.Proofs.Ytanhibhcmfmeeaa.Ex
open Go.Proofs.Ytanhibhcmfmeeaa.Win (St P2 startF)
open Go.Proofs.Ytanhibhcmfmeeaa.Se (L4 S4)
theorem meth_list_kv (d s : Nat) (w : World) : (method (d + 1) 71 (.pointer (some ⟨s, 0, none⟩)) "List").run Try.prog w = .ok (114, .pointer (some ⟨s, 0, none⟩)) w := by kernel_rfl
theorem meth_list_win (d s : Nat) (w : World) : (method (d + 1) 75 (.pointer (some ⟨s, 0, none⟩)) "List").run Try.prog w = .ok (118, .pointer (some ⟨s, 0, none⟩)) w := by kernel_rfl
theorem meth_list_se (d s : Nat) (w : World) : (method (d + 1) 76 (.pointer (some ⟨s, 0, none⟩)) "List").run Try.prog w = .ok (121, .pointer (some ⟨s, 0, none⟩)) w := by kernel_rfl
def ListR (w : World) (l : List T5) (e : Ending) (w' : World) : Prop := ∃ u, e = .returned u ∧ Row5 w' w.heap.size u l ∧ Below w.heap.size w w'
set_option maxRecDepth 100000 in
set_option maxHeartbeats 4000000 in
theorem list_kv {w0 w : World} {a s : Nat} {n : Int} {x : Ex} {l : Kv.L2} {v : Value} (h : AgK w0 w a s n x l v) :
    Calls Try.prog 15 #[.pointer (some ⟨a, 0, none⟩)] w (ListR w (l.map Kv.valT)) := by
  obtain ⟨kA, kc, c0, c2, c3, c4, c5, c6, _⟩ := h.vx.cells
  have hl := Kv.list_calls h.tb
  have hm := fun d w => meth_list_kv d s w
  clear h c0 c2 c3 c4 c5
  go_enter Try.func15, Try.ntmps15
  go_upto_region 3 with fail
  go_wp2_with fail
  refine hl.mono ?_
  rintro e w1 ⟨u, rfl, hR, hB⟩
  clear hl
  go_wp2_with fail
  go_ret
  exact ⟨u, rfl, hR, hB⟩
set_option maxRecDepth 100000 in
set_option maxHeartbeats 4000000 in
theorem list_win {w0 w : World} {a s b : Nat} {n : Int} {x : Ex} {m : St} (h : AgW w0 w a s b n x m) :
    Calls Try.prog 15 #[.pointer (some ⟨a, 0, none⟩)] w (ListR w (Win.listT n m)) := by
  obtain ⟨kA, kc, c0, c2, c3, c4, c5, c6, _⟩ := h.vx.cells
  have hl := Win.list_calls h.tb
  have hm := fun d w => meth_list_win d s w
  clear h c0 c2 c3 c4 c5
  go_enter Try.func15, Try.ntmps15
  go_upto_region 3 with fail
  go_wp2_with fail
  refine hl.mono ?_
  rintro e w1 ⟨u, rfl, hR, hB⟩
  clear hl
  go_wp2_with fail
  go_ret
  exact ⟨u, rfl, hR, hB⟩
set_option maxRecDepth 100000 in
set_option maxHeartbeats 4000000 in
theorem list_se {w0 w : World} {a s : Nat} {n : Int} {x : Ex} {l : L4} {v : Value} (h : AgS w0 w a s n x l v) :
    Calls Try.prog 15 #[.pointer (some ⟨a, 0, none⟩)] w (ListR w (l.map Se.chgT)) := by
  obtain ⟨kA, kc, c0, c2, c3, c4, c5, c6, _⟩ := h.vx.cells
  have hl := Se.list_calls h.tb
  have hm := fun d w => meth_list_se d s w
  clear h c0 c2 c3 c4 c5
  go_enter Try.func15, Try.ntmps15
  go_upto_region 3 with fail
  go_wp2_with fail
  refine hl.mono ?_
  rintro e w1 ⟨u, rfl, hR, hB⟩
  clear hl
  go_wp2_with fail
  go_ret
  exact ⟨u, rfl, hR, hB⟩
end Go.Proofs.Ytanhibhcmfmeeaa.Ag
/- What a record puts where there is no room; whatever table: one object. -/
namespace Go.Proofs.Ytanhibhcmfmeeaa.Ag
open Go.RowKit Go.Proofs.YtanhibhcmfmeeaaW.PrintWords Go.Proofs.YtanhibhcmfmeeaaW.PrintMore Go.Proofs.Ytanhibhcmfmeeaa.Cut Go.Proofs.Ytanhibhcmfmeeaa.Fr Go.Proofs.Ytanhibhcmfmeeaa.SlK Go.Proofs.Ytanhibhcmfmeeaa.Ex
open Go.Proofs.Ytanhibhcmfmeeaa.Win (St P2 startF)
open Go.Proofs.Ytanhibhcmfmeeaa.Se (L4 S4)
abbrev z5 : T5 := (0, 0, 0, 0, false)
set_option maxHeartbeats 4000000 in
theorem put_kv_full {w0 w : World} {a s B : Nat} {kind n room : Int} {x : Ex} {l : Kv.L2} {v : Value} (h : AgV w0 w a kind n x (ifKv s)) (hO : Kv.Own w B s room l v) (key val time rn : Int) (hn : Kv.look l key = none) (hf : room ≤ (l.length : Int)) (V : World) (hV : Below w.heap.size w V) :
    Calls Try.prog 25 #[.pointer (some ⟨a, 0, none⟩), recV key val time, .int .i64 rn] V fun e w' => ∃ u, e = .returned (.tuple #[u, .int .i64 3]) ∧ Row5 w' V.heap.size u [z5] ∧ Below V.heap.size V w' := by
  unfold recV
  have hta := assert_kv s
  have hB := below_alloc (Below.refl V.heap.size V) (.cells #[.int .i64 key, .int .i64 val, .int .i64 time] 36)
  obtain ⟨kA, kc, c0, c2, c3, c4, c5, c6, hx⟩ := ((h.below hV).below hB).cells
  have hp := Kv.put_full ((hO.below hV).below hB) key rn hn hf
  have HB := Lib.hid hB
  unfold Kv.chgV at hp
  clear h hV c0 c2 c3 c4 c5 hx hB hO hf hn
  go_enter Try.func25, Try.ntmps25
  go_wp2_with fail
  refine hp.mono ?_
  rintro e w1 ⟨rfl, hB1⟩
  have HB1 := Lib.hid (below_then HB.out HB.out.size hB1)
  clear hp hB1
  go_wp2_with fail
  go_ret2
  have hB2 : Below w1.heap.size w1 (w1.alloc (.cells (encC z5).toArray 50)) := below_alloc (Below.refl _ _) _
  have hB3 := below_then hB2 hB2.size (below_alloc (Below.refl _ _) (.cells (encC z5).toArray 50))
  have hrow := own_lit5 (w1.alloc (.cells (encC z5).toArray 50)) V.heap.size z5 (by have := HB1.out.size; simp; omega)
  have hsz : (w1.alloc (.cells (encC z5).toArray 50)).heap.size = w1.heap.size + 1 := by simp
  rw [hsz] at hrow
  exact ⟨_, rfl, row5_one hrow, below_then HB1.out HB1.out.size hB3⟩
set_option maxHeartbeats 4000000 in
theorem put_win_full {w0 w : World} {a s b : Nat} {kind n room size : Int} {x : Ex} {m : St} (h : AgV w0 w a kind n x (ifWin s)) (hO : Win.Own w s room size b m) (key val time rn : Int) (hk : Win.W64 key) (h0 : 0 ≤ startF size time) (hn : Win.look m (startF size time, key) = none) (hf : room ≤ (m.length : Int)) (V : World) (hV : Below w.heap.size w V) :
    Calls Try.prog 25 #[.pointer (some ⟨a, 0, none⟩), recV key val time, .int .i64 rn] V fun e w' => ∃ u, e = .returned (.tuple #[u, .int .i64 3]) ∧ Row5 w' V.heap.size u [z5] ∧ Below V.heap.size V w' := by
  unfold recV
  have hta := assert_win_kv s
  have htb := assert_win s
  have hB := below_alloc (Below.refl V.heap.size V) (.cells #[.int .i64 key, .int .i64 val, .int .i64 time] 36)
  obtain ⟨kA, kc, c0, c2, c3, c4, c5, c6, hx⟩ := ((h.below hV).below hB).cells
  have hp := Win.put_full (win_below (win_below hO hV) hB) key time rn hk (start_w64 hO.rng.2.2.1) h0 hn hf
  have HB := Lib.hid hB
  unfold Win.zchg at hp
  clear h hV c0 c2 c3 c4 c5 hx hB hO hf h0 hn
  go_enter Try.func25, Try.ntmps25
  go_wp2_with fail
  refine hp.mono ?_
  rintro e w1 ⟨rfl, hg1⟩
  have hB1 : Below V.heap.size V w1 := pw_below_grown HB.out none HB.out.size hg1 (fun k e => by cases e)
  have HB1 := Lib.hid hB1
  clear hp hg1 hB1
  go_wp2_with fail
  go_ret2
  have hB2 : Below w1.heap.size w1 (w1.alloc (.cells (encC z5).toArray 50)) := below_alloc (Below.refl _ _) _
  have hB3 := below_then hB2 hB2.size (below_alloc (Below.refl _ _) (.cells (encC z5).toArray 50))
  have hrow := own_lit5 (w1.alloc (.cells (encC z5).toArray 50)) V.heap.size z5 (by have := HB1.out.size; simp; omega)
  have hsz : (w1.alloc (.cells (encC z5).toArray 50)).heap.size = w1.heap.size + 1 := by simp
  rw [hsz] at hrow
  exact ⟨_, rfl, row5_one hrow, below_then HB1.out HB1.out.size hB3⟩
set_option maxHeartbeats 4000000 in
theorem put_se_full {w0 w : World} {a s B : Nat} {kind n room gap : Int} {x : Ex} {l : L4} {v : Value} (h : AgV w0 w a kind n x (ifSe s)) (hO : Se.Own w B s room gap l v) (key val time rn : Int) (ht : mayT time = true) (hn : Se.hits gap key time l = []) (hf : room ≤ (l.length : Int)) (V : World) (hV : Below w.heap.size w V) :
    Calls Try.prog 25 #[.pointer (some ⟨a, 0, none⟩), recV key val time, .int .i64 rn] V fun e w' => ∃ u, e = .returned (.tuple #[u, .int .i64 3]) ∧ Row5 w' V.heap.size u [] ∧ Below V.heap.size V w' := by
  unfold recV
  have hta := assert_se_kv s
  have htb := assert_se_win s
  have htc := assert_se s
  have hB := below_alloc (Below.refl V.heap.size V) (.cells #[.int .i64 key, .int .i64 val, .int .i64 time] 36)
  obtain ⟨kA, kc, c0, c2, c3, c4, c5, c6, hx⟩ := ((h.below hV).below hB).cells
  have hp := Se.put_full ((hO.below hV).below hB) key time rn ht hn hf
  have HB := Lib.hid hB
  clear h hV c0 c2 c3 c4 c5 hx hB hO hf ht hn
  go_enter Try.func25, Try.ntmps25
  go_wp2_with fail
  refine hp.mono ?_
  rintro e w1 ⟨rfl, hB1⟩
  have HB1 := Lib.hid (below_then HB.out HB.out.size hB1)
  clear hp hB1
  go_wp2_with fail
  go_ret2
  exact ⟨_, rfl, Kd.R_nil _ _ _ _ _, HB1.out⟩
/-! one object -/
inductive Tb where
  | kv (l : Kv.L2)
  | win (m : St)
  | se (l : L4)
def Tb.kind : Tb → Int
  | .kv _ => 6
  | .win _ => 7
  | .se _ => 8
def Tb.len : Tb → Nat
  | .kv l => l.length
  | .win m => m.length
  | .se l => l.length
/-- What a record meets. -/
def gathT (n : Int) : Tb → Int → Int → Int
  | .kv l, key, _ => (Kv.look l key).getD 0
  | .win m, key, time => (Win.look m (startF n time, key)).getD 0
  | .se l, key, time => gathS n key time l
/-- What is put; none: there is no room. -/
def putT (n : Int) : Tb → Int → Int → Int → Option (List T5 × Tb)
  | .kv l, key, _, rn => if Kv.look l key = none ∧ 1024 ≤ l.length then none else some ([(key, 0, 0, rn, false)], .kv (Kv.putL key rn l))
  | .win m, key, time, rn => if Win.look m (startF n time, key) = none ∧ 1024 ≤ m.length then none else some ([winT n (startF n time) key rn], .win (Win.put (startF n time, key) rn m))
  | .se l, key, time, rn => if Se.hits n key time l = [] ∧ 1024 ≤ l.length then none else some (Se.outT n key time rn l, .se (Se.putL n key time rn l))
def listT (n : Int) : Tb → List T5
  | .kv l => l.map Kv.valT
  | .win m => Win.listT n m
  | .se l => l.map Se.chgT
/-- A vertex's store: the blocks that its table holds are F. -/
inductive AgO (w0 w : World) (a : Nat) (n : Int) (x : Ex) : Tb → (Nat → Prop) → Prop where
  | kv {s : Nat} {l : Kv.L2} {v : Value} (h : AgK w0 w a s n x l v) : AgO w0 w a n x (.kv l) (Kv.F s v)
  | win {s b : Nat} {m : St} (h : AgW w0 w a s b n x m) : AgO w0 w a n x (.win m) (Fw s b)
  | se {s : Nat} {l : L4} {v : Value} (h : AgS w0 w a s n x l v) : AgO w0 w a n x (.se l) (Se.F s v)
theorem AgO.below {w0 w w' : World} {a : Nat} {n : Int} {x : Ex} {t : Tb} {F : Nat → Prop} (h : AgO w0 w a n x t F) (hb : Below w.heap.size w w') : AgO w0 w' a n x t F := by
  cases h with
  | kv h => exact .kv (h.below hb)
  | win h => exact .win (h.below hb)
  | se h => exact .se (h.below hb)
theorem AgO.lt {w0 w : World} {a : Nat} {n : Int} {x : Ex} {t : Tb} {F : Nat → Prop} (h : AgO w0 w a n x t F) (k : Nat) (hk : F k) : w0.heap.size ≤ k ∧ k < w.heap.size := by
  cases h with
  | kv h => exact h.tb.lt k hk
  | win h =>
    rcases hk with rfl | rfl
    · exact ⟨h.bs, h.tb.lt.1⟩
    · exact ⟨h.bb, h.tb.lt.2.1⟩
  | se h => exact h.tb.lt k hk
theorem AgO.vx {w0 w : World} {a : Nat} {n : Int} {x : Ex} {t : Tb} {F : Nat → Prop} (h : AgO w0 w a n x t F) : ∃ tt p, AgV w0 w a t.kind n x (.iface tt (.pointer (some p))) := by
  cases h with
  | kv h => exact ⟨_, _, h.vx⟩
  | win h => exact ⟨_, _, h.vx⟩
  | se h => exact ⟨_, _, h.vx⟩
theorem AgO.alt {w0 w : World} {a : Nat} {n : Int} {x : Ex} {t : Tb} {F : Nat → Prop} (h : AgO w0 w a n x t F) : w0.heap.size ≤ a ∧ a < w.heap.size := by
  obtain ⟨tt, p, hv⟩ := h.vx
  exact ⟨hv.base, hv.lt⟩
theorem AgO.low {w0 w : World} {a : Nat} {n : Int} {x : Ex} {t : Tb} {F : Nat → Prop} (h : AgO w0 w a n x t F) : Below w0.heap.size w0 w := by
  obtain ⟨tt, p, hv⟩ := h.vx
  exact hv.low
theorem AgO.ne {w0 w : World} {a : Nat} {n : Int} {x : Ex} {t : Tb} {F : Nat → Prop} (h : AgO w0 w a n x t F) : ¬ F a := by
  cases h with
  | kv h => exact h.ne
  | win h => exact h.ne
  | se h => exact h.ne
/-- Blocks of other types are none of its table's. -/
theorem AgO.far {w0 w : World} {a : Nat} {n : Int} {x : Ex} {t : Tb} {F : Nat → Prop} (h : AgO w0 w a n x t F) {k : Nat} {cs : Array Value} {tt : TypeId} {fr : Nat × Nat} (hk : w.heap[k]? = some (.cells cs tt fr)) (h1 : tt ≠ 100 ∧ tt ≠ 97 ∧ tt ≠ 108 ∧ tt ≠ 115 ∧ tt ≠ 113) : ¬ F k := by
  cases h with
  | kv h => exact h.far hk h1.1 h1.2.1
  | win h => exact h.far hk h1.2.2.1
  | se h => exact h.far hk h1.2.2.2.1 h1.2.2.2.2
/-- Beside another step. -/
theorem AgO.mv {w0 w w' : World} {a : Nat} {n : Int} {x : Ex} {t : Tb} {F : Nat → Prop} (h : AgO w0 w a n x t F) {G G' : Nat → Prop} (hm : Mv w w' G G') (hG : ∀ k, G k → w0.heap.size ≤ k) (hF : ∀ k, F k → ¬ G k) (ha : ¬ G a) : AgO w0 w' a n x t F := by
  cases h with
  | kv h => exact .kv ⟨h.vx.mv hm hG ha, h.tb.mv hm hF⟩
  | win h => exact .win ⟨h.vx.mv hm hG ha, win_mv h.tb hm (hF _ (.inl rfl)) (hF _ (.inr rfl)), h.bs, h.bb⟩
  | se h => exact .se ⟨h.vx.mv hm hG ha, h.tb.mv hm hF⟩
theorem list_o {w0 w : World} {a : Nat} {n : Int} {x : Ex} {t : Tb} {F : Nat → Prop} (h : AgO w0 w a n x t F) : Calls Try.prog 15 #[.pointer (some ⟨a, 0, none⟩)] w (ListR w (listT n t)) := by
  cases h with
  | kv h => exact list_kv h
  | win h => exact list_win h
  | se h => exact list_se h
end Go.Proofs.Ytanhibhcmfmeeaa.Ag
/- Apply, whatever the table and whatever comes. -/
namespace Go.Proofs.Ytanhibhcmfmeeaa.Ag
open Go.RowKit Go.Proofs.YtanhibhcmfmeeaaW.PrintWords Go.Proofs.YtanhibhcmfmeeaaW.PrintMore Go.Proofs.Ytanhibhcmfmeeaa.Cut Go.Proofs.Ytanhibhcmfmeeaa.Fr Go.Proofs.Ytanhibhcmfmeeaa.SlK Go.Proofs.Ytanhibhcmfmeeaa.Ex
open Go.Proofs.Ytanhibhcmfmeeaa.Win (St P2 startF)
open Go.Proofs.Ytanhibhcmfmeeaa.Se (L4 S4)
/-! an expression's value is one of 64 bits -/
inductive WfE : Ex → Prop where
  | mk (op n : Int) (ks : List Ex) (h : Ex.W64 n) (hs : ∀ k ∈ ks, WfE k) : WfE (.mk op n ks)
theorem WfE.n {op n : Int} {ks : List Ex} (h : WfE (.mk op n ks)) : Ex.W64 n := by cases h with | mk _ _ _ h _ => exact h
theorem WfE.kids {op n : Int} {ks : List Ex} (h : WfE (.mk op n ks)) : ∀ k ∈ ks, WfE k := by cases h with | mk _ _ _ _ h => exact h
mutual
theorem kidsR_wf {w : World} : ∀ (l : List Ex) (A : Option Addr), KidsR w l A → ∀ k ∈ l, WfE k
  | [], _, _, k, hk => by simp at hk
  | y :: r, A, h, k, hk => by
    unfold KidsR at h
    obtain ⟨ad, h1, h2, h3⟩ := h
    rcases List.mem_cons.1 hk with e | e
    · rw [e]; exact kidR_wf y ad h2
    · exact kidsR_wf r _ h3 k e
theorem kidR_wf {w : World} : ∀ (x : Ex) (ad : Addr), KidR w x ad → WfE x
  | .mk op n ks, ad, h => by
    unfold KidR at h
    obtain ⟨h1, h2, h3, h4, h5, A, c, h6, h7⟩ := h
    exact .mk op n ks h4 (kidsR_wf ks A h7)
end
theorem exV_wf {w : World} {x : Ex} {v : Value} (h : ExV w x v) : WfE x := by
  obtain ⟨A, c, h1, h2, h3, h4, h5⟩ := h.out
  obtain ⟨op, n, ks⟩ := x
  exact .mk op n ks h3 (kidsR_wf ks A h5)
theorem w64_of {a : Int} (h : -9223372036854775808 ≤ a ∧ a ≤ 9223372036854775807) : Ex.W64 a := WalkArith.wf_i64 h
theorem w64_to {a : Int} (h : Ex.W64 a) : -9223372036854775808 ≤ a ∧ a ≤ 9223372036854775807 := Open.wf_i64 h
theorem w64_wrap (a : Int) : Ex.W64 (wrap64 a) := w64_of (by unfold wrap64; omega)
theorem tmod_bd (a b : Int) (h : -9223372036854775808 ≤ a ∧ a ≤ 9223372036854775807) : -9223372036854775808 ≤ a.tmod b ∧ a.tmod b ≤ 9223372036854775807 := by
  have h1 : (a.tmod b).natAbs ≤ a.natAbs := by rw [Int.natAbs_tmod]; exact Nat.mod_le _ _
  by_cases h0 : 0 ≤ a
  · have := Int.tmod_nonneg b h0
    omega
  · have h2 := Int.tmod_nonneg b (show 0 ≤ -a by omega)
    rw [Int.neg_tmod] at h2
    omega
theorem twoF_w64 {op a b r : Int} (ha : Ex.W64 a) (hb : Ex.W64 b) (h : twoF op a b = some r) : Ex.W64 r := by
  have h1 := w64_to ha
  have h2 := w64_to hb
  unfold twoF at h
  repeat' split at h
  all_goals first
    | (cases h; done)
    | (injection h with h; subst h; first | exact w64_wrap _ | exact w64_of (by omega) | exact w64_of (tmod_bd _ _ h1) | (apply w64_of; split <;> omega) | exact w64_of (by decide))
theorem leafF_w64 {q : Go.Proofs.Ytanhibhcmfmeeaa.Ex.Ask} {op n : Int} (hq : Ex.W64 q.key ∧ Ex.W64 q.val ∧ Ex.W64 q.time ∧ Ex.W64 q.acc) (hn : Ex.W64 n) : Ex.W64 (leafF q op n) := by
  unfold leafF
  repeat' split
  · exact hn
  · exact hq.1
  · exact hq.2.1
  · exact hq.2.2.1
  · exact hq.2.2.2
theorem valF_w64 {q : Go.Proofs.Ytanhibhcmfmeeaa.Ex.Ask} (hq : Ex.W64 q.key ∧ Ex.W64 q.val ∧ Ex.W64 q.time ∧ Ex.W64 q.acc) : ∀ (x : Ex), WfE x → ∀ r, valF q x = some r → Ex.W64 r
  | .mk op n [], h, r, e => by
    unfold valF at e
    rw [← Option.some.inj e]; exact leafF_w64 hq h.n
  | .mk op n [a], h, r, e => by
    unfold valF at e
    obtain ⟨y, _, rfl⟩ := Option.map_eq_some_iff.1 e
    exact w64_wrap _
  | .mk op n [a, b], h, r, e => by
    unfold valF at e
    obtain ⟨y, hy, e⟩ := Option.bind_eq_some_iff.1 e
    obtain ⟨z, hz, e⟩ := Option.bind_eq_some_iff.1 e
    exact twoF_w64 (valF_w64 hq a (h.kids a (by simp)) y hy) (valF_w64 hq b (h.kids b (by simp)) z hz) e
  | .mk op n [a, b, c], h, r, e => by
    unfold valF at e
    obtain ⟨y, hy, e⟩ := Option.bind_eq_some_iff.1 e
    split at e
    · exact valF_w64 hq b (h.kids b (by simp)) r e
    · exact valF_w64 hq c (h.kids c (by simp)) r e
  | .mk op n (_ :: _ :: _ :: _ :: _), h, r, e => by unfold valF at e; cases e
theorem evalF_w64 {q : Go.Proofs.Ytanhibhcmfmeeaa.Ex.Ask} (hq : Ex.W64 q.key ∧ Ex.W64 q.val ∧ Ex.W64 q.time ∧ Ex.W64 q.acc) {x : Ex} (h : WfE x) : Ex.W64 (evalF q x).1 := by
  unfold evalF
  split
  · split
    · rename_i v hv; exact valF_w64 hq x h v hv
    · exact w64_of (by decide)
  · exact w64_of (by decide)
/-- The table's values are of 64 bits. -/
def Tb.Vw : Tb → Prop
  | .kv l => ∀ p ∈ l, Ex.W64 p.2
  | .win m => ∀ p ∈ m, Ex.W64 p.2
  | .se l => ∀ p ∈ l, Ex.W64 p.val
theorem valsV_w64 : ∀ (l : List T5), Ex.W64 (valsV l) := by
  intro l
  unfold valsV
  have : ∀ (l : List T5) (a : Int), Ex.W64 a → Ex.W64 (l.foldl (fun a c => wrap64 (a + c.2.2.2.1)) a) := by
    intro l
    induction l with
    | nil => intro a h; exact h
    | cons y r ih => intro a _; exact ih _ (w64_wrap _)
  exact this l 0 (w64_of (by decide))
theorem gathT_w64 {n : Int} {t : Tb} (h : t.Vw) (key time : Int) : Ex.W64 (gathT n t key time) := by
  cases t with
  | kv l =>
    show Ex.W64 ((Kv.look l key).getD 0)
    cases hl : Kv.look l key with
    | none => exact w64_of (by decide)
    | some v =>
      unfold Kv.look at hl
      obtain ⟨p, hp, rfl⟩ := Option.map_eq_some_iff.1 hl
      exact h p (List.mem_of_find?_eq_some hp)
  | win m =>
    show Ex.W64 ((Win.look m (startF n time, key)).getD 0)
    cases hl : Win.look m (startF n time, key) with
    | none => exact w64_of (by decide)
    | some v => exact h _ (Win.look_mem hl)
  | se l => exact valsV_w64 _
theorem putT_kv (n : Int) (l : Kv.L2) (key time rn : Int) : putT n (.kv l) key time rn = if Kv.look l key = none ∧ 1024 ≤ l.length then none else some ([(key, 0, 0, rn, false)], .kv (Kv.putL key rn l)) := rfl
theorem putT_win (n : Int) (m : St) (key time rn : Int) : putT n (.win m) key time rn = if Win.look m (startF n time, key) = none ∧ 1024 ≤ m.length then none else some ([winT n (startF n time) key rn], .win (Win.put (startF n time, key) rn m)) := rfl
theorem putT_se (n : Int) (l : L4) (key time rn : Int) : putT n (.se l) key time rn = if Se.hits n key time l = [] ∧ 1024 ≤ l.length then none else some (Se.outT n key time rn l, .se (Se.putL n key time rn l)) := rfl
def applyT (n : Int) (x : Ex) (t : Tb) (key val time : Int) : (Int × Int × Int) × List T5 × Int × Tb :=
  if mayT time = false then ((0, 0, 0), [], 2, t)
  else if (evalF ⟨key, val, time, gathT n t key time⟩ x).2 ≠ 0 then ((0, 0, 0), [], (evalF ⟨key, val, time, gathT n t key time⟩ x).2, t)
  else match putT n t key time (evalF ⟨key, val, time, gathT n t key time⟩ x).1 with
    | none => ((0, 0, 0), [], 3, t)
    | some (chs, t') => ((key, (evalF ⟨key, val, time, gathT n t key time⟩ x).1, if t.kind = 6 then time else lastFrom chs), chs, 0, t')
def ApO (w0 w : World) (a : Nat) (n : Int) (x : Ex) (F : Nat → Prop) (r : (Int × Int × Int) × List T5 × Int × Tb) (e : Ending) (w' : World) : Prop :=
  ∃ sl F', e = .returned (.tuple #[recV r.1.1 r.1.2.1 r.1.2.2, sl, .int .i64 r.2.2.1]) ∧ Row5 w' w.heap.size sl r.2.1 ∧ AgO w0 w' a n x r.2.2.2 F' ∧ Mv w w' F F'
theorem gathered_o {w0 w : World} {a : Nat} {n : Int} {x : Ex} {t : Tb} {F : Nat → Prop} (h : AgO w0 w a n x t F) (key val time : Int) (hk : Ex.W64 key) (ht : mayT time = true) (W : World) (hW : Below w.heap.size w W) :
    Calls Try.prog 24 #[.pointer (some ⟨a, 0, none⟩), recV key val time] W fun e w' => e = .returned (.int .i64 (gathT n t key time)) ∧ Below W.heap.size W w' := by
  cases h with
  | kv h => exact gathered_kv h.vx h.tb key val time W hW
  | win h => exact gathered_win h.vx h.tb key val time hk W hW
  | se h => exact gathered_se h.vx h.tb key val time ht W hW
def FullP (V : World) (e : Ending) (w' : World) : Prop := ∃ u chs, e = .returned (.tuple #[u, .int .i64 3]) ∧ Row5 w' V.heap.size u chs ∧ Below V.heap.size V w'
theorem apply_full {w0 w : World} {a : Nat} {n : Int} {x : Ex} {t : Tb} {F : Nat → Prop} (h : AgO w0 w a n x t F) (key val time rn : Int) (hk : Ex.W64 key) (ht : mayT time = true) (he : evalF ⟨key, val, time, gathT n t key time⟩ x = (rn, 0))
    (hput : ∀ V, Below w.heap.size w V → Calls Try.prog 25 #[.pointer (some ⟨a, 0, none⟩), recV key val time, .int .i64 rn] V (FullP V)) :
    Calls Try.prog 12 #[.pointer (some ⟨a, 0, none⟩), recV key val time] w fun e w' => e = .returned (.tuple #[recV 0 0 0, .slice none 0 0, .int .i64 3]) ∧ Below w.heap.size w w' := by
  obtain ⟨tt, p, hv⟩ := h.vx
  refine (apply_put hv key val time _ rn ht (fun W hW => gathered_o h key val time hk ht W hW) he (fun _ => False) (fun k hk => hk.elim) (fun _ er _ _ => er = 3) (fun V hV => (hput V hV).mono ?_)).mono ?_
  · rintro e w' ⟨u, chs, rfl, hR, hB⟩
    exact ⟨u, 3, chs, fun _ => False, rfl, hR, fun e => absurd e (by decide), Mv.of_below _ hB, rfl⟩
  · rintro e w' ⟨V, w1, sl, er, chs, Ft', hV, hVs, hR5, _, rfl, hM2, rfl⟩
    rename_i hM1
    refine ⟨rfl, ?_⟩
    have hB1 := hM1.below hV hV.size (fun k e => e.elim)
    refine ⟨hM2.os.trans hB1.os, hM2.tape.trans hB1.tape, hM2.output.trans hB1.output, Nat.le_trans hB1.size hM2.size, fun k hk => ?_⟩
    exact (hM2.keep k (Nat.lt_of_lt_of_le hk hB1.size) (by omega)).trans (hB1.block k hk)
theorem apply_o {w0 w : World} {a : Nat} {n : Int} {x : Ex} {t : Tb} {F : Nat → Prop} (h : AgO w0 w a n x t F) (hw : t.Vw) (key val time : Int) (hk : Ex.W64 key) (hv : Ex.W64 val) :
    Calls Try.prog 12 #[.pointer (some ⟨a, 0, none⟩), recV key val time] w (ApO w0 w a n x F (applyT n x t key val time)) := by
  obtain ⟨tt, p, hvx⟩ := h.vx
  cases ht : mayT time with
  | false =>
    have e : applyT n x t key val time = ((0, 0, 0), [], 2, t) := by unfold applyT; rw [if_pos ht]
    rw [e]
    refine (apply_range hvx key val time ht).mono ?_
    rintro e w' ⟨rfl, hB⟩
    exact ⟨_, F, rfl, Kd.R_nil _ _ _ _ _, h.below hB, Mv.of_below _ hB⟩
  | true =>
    obtain ⟨q, hq⟩ : ∃ q, q = evalF ⟨key, val, time, gathT n t key time⟩ x := ⟨_, rfl⟩
    obtain ⟨rn, er⟩ := q
    have hrw : Ex.W64 rn := by
      have h01 : 0 ≤ time ∧ time ≤ 1099511627776 := of_decide_eq_true ht
      obtain ⟨_, _, _, kA, kc, _, hx⟩ := hvx.row
      have := evalF_w64 (q := ⟨key, val, time, gathT n t key time⟩) ⟨hk, hv, w64_of (a := time) ⟨by omega, by omega⟩, gathT_w64 hw key time⟩ (exV_wf hx)
      rw [← hq] at this
      exact this
    by_cases he : er = 0
    · subst he
      have e : applyT n x t key val time = match putT n t key time rn with
          | none => ((0, 0, 0), [], 3, t)
          | some (chs, t') => ((key, rn, if t.kind = 6 then time else lastFrom chs), chs, 0, t') := by
        unfold applyT
        rw [if_neg (by rw [ht]; decide), ← hq, if_neg (fun e => e rfl)]
      rw [e]
      cases h with
      | @kv s l v h =>
        rw [putT_kv]
        by_cases hf : Kv.look l key = none ∧ 1024 ≤ l.length
        · rw [if_pos hf]
          refine (apply_full (.kv h) key val time rn hk ht hq.symm fun V hV => (put_kv_full h.vx h.tb key val time rn hf.1 (by omega) V hV).mono ?_).mono ?_
          · rintro e w' ⟨u, rfl, hR, hB⟩
            exact ⟨u, _, rfl, hR, hB⟩
          · rintro e w' ⟨rfl, hB⟩
            exact ⟨_, _, rfl, Kd.R_nil _ _ _ _ _, .kv (h.below hB), Mv.of_below _ hB⟩
        · rw [if_neg hf]
          refine (apply_kv h key val time rn ht hq.symm (fun e => Nat.lt_of_not_le fun e2 => hf ⟨e, e2⟩)).mono ?_
          rintro e w' ⟨sl, v', rfl, hR, hK, hM⟩
          exact ⟨sl, _, rfl, hR, .kv hK, hM⟩
      | @win s b m h =>
        rw [putT_win]
        have h01 : 0 ≤ time ∧ time ≤ 1099511627776 := of_decide_eq_true ht
        by_cases hf : Win.look m (startF n time, key) = none ∧ 1024 ≤ m.length
        · rw [if_pos hf]
          refine (apply_full (.win h) key val time rn hk ht hq.symm fun V hV => (put_win_full h.vx h.tb key val time rn hk (start_facts h.tb.rng.2.2.1 h01.1 h01.2).2.1 hf.1 (by omega) V hV).mono ?_).mono ?_
          · rintro e w' ⟨u, rfl, hR, hB⟩
            exact ⟨u, _, rfl, hR, hB⟩
          · rintro e w' ⟨rfl, hB⟩
            exact ⟨_, _, rfl, Kd.R_nil _ _ _ _ _, .win (h.below hB), Mv.of_below _ hB⟩
        · rw [if_neg hf]
          refine (apply_win h key val time rn hk hrw ht hq.symm (fun e => Nat.lt_of_not_le fun e2 => hf ⟨e, e2⟩)).mono ?_
          rintro e w' ⟨sl, rfl, hR, hK, hM⟩
          exact ⟨sl, _, rfl, hR, .win hK, hM⟩
      | @se s l v h =>
        rw [putT_se]
        by_cases hf : Se.hits n key time l = [] ∧ 1024 ≤ l.length
        · rw [if_pos hf]
          refine (apply_full (.se h) key val time rn hk ht hq.symm fun V hV => (put_se_full h.vx h.tb key val time rn ht hf.1 (by omega) V hV).mono ?_).mono ?_
          · rintro e w' ⟨u, rfl, hR, hB⟩
            exact ⟨u, _, rfl, hR, hB⟩
          · rintro e w' ⟨rfl, hB⟩
            exact ⟨_, _, rfl, Kd.R_nil _ _ _ _ _, .se (h.below hB), Mv.of_below _ hB⟩
        · rw [if_neg hf]
          refine (apply_se h key val time rn ht hq.symm (fun e => Nat.lt_of_not_le fun e2 => hf ⟨e, e2⟩)).mono ?_
          rintro e w' ⟨sl, v', rfl, hR, hK, hM⟩
          refine ⟨sl, _, ?_, hR, .se hK, hM⟩
          have e8 : (if (Tb.se l).kind = 6 then time else lastFrom (Se.outT n key time rn l)) = Se.firstF n key time l := by
            rw [if_neg (show ¬ (Tb.se l).kind = 6 from (by decide : ¬ (8 : Int) = 6)), last_out]
          simp only [e8]
    · have e : applyT n x t key val time = ((0, 0, 0), [], er, t) := by
        unfold applyT
        rw [if_neg (by rw [ht]; decide), ← hq, if_pos he]
      rw [e]
      refine (apply_err hvx key val time _ ht (fun W hW => gathered_o h key val time hk ht W hW) er (by rw [← hq]) he).mono ?_
      rintro e w' ⟨rfl, hB⟩
      exact ⟨_, F, rfl, Kd.R_nil _ _ _ _ _, h.below hB, Mv.of_below _ hB⟩
end Go.Proofs.Ytanhibhcmfmeeaa.Ag
/- New, whatever the kind; how a table grows. -/
namespace Go.Proofs.Ytanhibhcmfmeeaa.Ag
open Go.RowKit Go.Proofs.YtanhibhcmfmeeaaW.PrintWords Go.Proofs.YtanhibhcmfmeeaaW.PrintMore Go.Proofs.Ytanhibhcmfmeeaa.Cut Go.Proofs.Ytanhibhcmfmeeaa.Fr Go.Proofs.Ytanhibhcmfmeeaa.SlK Go.Proofs.Ytanhibhcmfmeeaa.Ex
open Go.Proofs.Ytanhibhcmfmeeaa.Win (St P2 startF)
open Go.Proofs.Ytanhibhcmfmeeaa.Se (L4 S4)
def emptyT (kind : Int) : Tb := if kind = 6 then .kv [] else if kind = 7 then .win [] else .se []
def NewO (w0 w : World) (kind n : Int) (x : Ex) (e : Ending) (w' : World) : Prop :=
  ∃ a F, e = .returned (.tuple #[.pointer (some ⟨a, 0, none⟩), .int .i64 0]) ∧ AgO w0 w' a n x (emptyT kind) F ∧ (∀ k, F k → w.heap.size ≤ k) ∧ w.heap.size ≤ a ∧ Below w.heap.size w w'
theorem kv_down {w : World} {B B' s : Nat} {room : Int} {l : Kv.L2} {v : Value} (h : Kv.Own w B s room l v) (hb : B' ≤ B) : Kv.Own w B' s room l v := ⟨h.row, Se.own_lower h.pairs hb, h.sorted, h.rng, h.fits, Nat.le_trans hb h.base⟩
theorem new_o {w0 w : World} {kind n : Int} {x : Ex} {v : Value} (h : VxV w0 kind n x v) (hb : Below w0.heap.size w0 w) (hk : kind = 6 ∨ kind = 7 ∨ kind = 8) (hn : kind ≠ 6 → 1 ≤ n ∧ n ≤ 1048576) (hm : mayE x = true) : Calls Try.prog 10 #[v] w (NewO w0 w kind n x) := by
  obtain ⟨fA0, fn0, fc0, kA0, kc0, hv0, hx0⟩ := h.out
  rcases hk with rfl | rfl | rfl
  · refine (new_kv (h.below hb) hm).mono ?_
    rintro e w' ⟨a, s, rfl, hV, hO, hsa, hle, hB, fA, fn, fc, kA, kc, hve, hr⟩
    rw [hve] at hv0
    simp only [Value.agg.injEq, Array.mk.injEq, List.cons.injEq, Value.slice.injEq, and_true, true_and] at hv0
    obtain ⟨⟨rfl, rfl, rfl⟩, rfl, rfl⟩ := hv0
    exact ⟨a, Kv.F s (.slice none 0 0), rfl, .kv ⟨⟨below_then hb hb.size hB, Nat.le_trans hb.size hle, _, _, _, _, _, hr, hx0⟩, kv_down hO hb.size⟩, fun k hk => (hO.lt k hk).1, hle, hB⟩
  · refine (new_win (h.below hb) (hn (by decide)) hm).mono ?_
    rintro e w' ⟨a, s, b, rfl, hA, hsa, hba, hle, hB, fA, fn, fc, kA, kc, hve, hr⟩
    rw [hve] at hv0
    simp only [Value.agg.injEq, Array.mk.injEq, List.cons.injEq, Value.slice.injEq, and_true, true_and] at hv0
    obtain ⟨⟨rfl, rfl, rfl⟩, rfl, rfl⟩ := hv0
    refine ⟨a, Fw s b, rfl, .win ⟨⟨below_then hb hb.size hB, Nat.le_trans hb.size hle, _, _, _, _, _, hr, hx0⟩, hA.tb, Nat.le_trans hb.size hA.bs, Nat.le_trans hb.size hA.bb⟩, fun k hk => ?_, hle, hB⟩
    rcases hk with rfl | rfl
    · exact hA.bs
    · exact hA.bb
  · refine (new_se (h.below hb) (hn (by decide)) hm).mono ?_
    rintro e w' ⟨a, s, rfl, hV, hO, hsa, hle, hB, fA, fn, fc, kA, kc, hve, hr⟩
    rw [hve] at hv0
    simp only [Value.agg.injEq, Array.mk.injEq, List.cons.injEq, Value.slice.injEq, and_true, true_and] at hv0
    obtain ⟨⟨rfl, rfl, rfl⟩, rfl, rfl⟩ := hv0
    exact ⟨a, Se.F s (.slice none 0 0), rfl, .se ⟨⟨below_then hb hb.size hB, Nat.le_trans hb.size hle, _, _, _, _, _, hr, hx0⟩, own_down hO hb.size⟩, fun k hk => (hO.lt k hk).1, hle, hB⟩
theorem empty_len (kind : Int) : (emptyT kind).len = 0 := by
  unfold emptyT
  repeat' split
  all_goals rfl
theorem empty_vw (kind : Int) : (emptyT kind).Vw := by
  unfold emptyT
  repeat' split
  all_goals (intro p hp; simp at hp)
def Tb.Sd : Tb → Prop
  | .kv l => Kv.Sorted l
  | .win m => Win.Sorted m
  | .se l => Se.Sorted l
theorem AgO.sd {w0 w : World} {a : Nat} {n : Int} {x : Ex} {t : Tb} {F : Nat → Prop} (h : AgO w0 w a n x t F) : t.Sd := by
  cases h with
  | kv h => exact h.tb.sorted
  | win h => exact h.tb.sorted
  | se h => exact h.tb.sorted
theorem putT_vw {n : Int} {t t' : Tb} {key time rn : Int} {chs : List T5} (h : t.Vw) (hs : t.Sd) (hr : Ex.W64 rn) (e : putT n t key time rn = some (chs, t')) : t'.Vw := by
  cases t with
  | kv l =>
    rw [putT_kv] at e
    split at e
    · cases e
    · obtain ⟨_, rfl⟩ := Prod.mk.inj (Option.some.inj e)
      intro p hp
      rcases (Kv.mem_put _ _ hs p).1 hp with rfl | h1
      · exact hr
      · exact h p h1.2
  | win m =>
    rw [putT_win] at e
    split at e
    · cases e
    · obtain ⟨_, rfl⟩ := Prod.mk.inj (Option.some.inj e)
      intro p hp
      rcases Win.mem_put hp with rfl | h1
      · exact hr
      · exact h p h1
  | se l =>
    rw [putT_se] at e
    split at e
    · cases e
    · obtain ⟨_, rfl⟩ := Prod.mk.inj (Option.some.inj e)
      intro p hp
      rcases (Se.mem_ins _ _ _).1 hp with rfl | h1
      · exact hr
      · exact h p (Se.mem_stay.1 h1).1
theorem putT_len {n : Int} {t t' : Tb} {key time rn : Int} {chs : List T5} (hs : t.Sd) (e : putT n t key time rn = some (chs, t')) : t'.len ≤ t.len + 1 ∧ chs.length ≤ t.len + 1 := by
  cases t with
  | kv l =>
    rw [putT_kv] at e
    split at e
    · cases e
    · obtain ⟨rfl, rfl⟩ := Prod.mk.inj (Option.some.inj e)
      have := Kv.len_put key rn hs
      exact ⟨by simp only [Tb.len]; omega, by simp⟩
  | win m =>
    rw [putT_win] at e
    split at e
    · cases e
    · obtain ⟨rfl, rfl⟩ := Prod.mk.inj (Option.some.inj e)
      have := Win.put_len (startF n time, key) rn hs
      exact ⟨by simp only [Tb.len]; split at this <;> omega, by simp⟩
  | se l =>
    rw [putT_se] at e
    split at e
    · cases e
    · obtain ⟨rfl, rfl⟩ := Prod.mk.inj (Option.some.inj e)
      have h1 := Se.stay_len n key time l
      have h2 := Se.len_ins (Se.newS n key time rn l) (Se.stay n key time l)
      have h3 : (Se.outT n key time rn l).length ≤ (Se.hits n key time l).length + 1 := by
        unfold Se.outT
        rw [List.length_append, List.length_map]
        have := List.length_filter_le (fun x : S4 => !decide (x.fr = Se.firstF n key time l ∧ x.to_ = Se.lastF n key time l)) (Se.hits n key time l)
        simp only [List.length_singleton]
        omega
      exact ⟨by simp only [Tb.len, Se.putL]; omega, by simp only [Tb.len]; omega⟩
theorem listT_len (n : Int) (t : Tb) : (listT n t).length = t.len := by
  cases t <;> simp [listT, Tb.len, Win.listT]
theorem applyT_ok {n : Int} {x : Ex} {t : Tb} {key val time : Int} (h : t.Vw) (hs : t.Sd) (hr : Ex.W64 (evalF ⟨key, val, time, gathT n t key time⟩ x).1) : (applyT n x t key val time).2.2.2.Vw ∧ (applyT n x t key val time).2.2.2.len ≤ t.len + 1 ∧ (applyT n x t key val time).2.1.length ≤ t.len + 1 := by
  unfold applyT
  split
  · exact ⟨h, Nat.le_succ _, Nat.zero_le _⟩
  · split
    · exact ⟨h, Nat.le_succ _, Nat.zero_le _⟩
    · split
      · exact ⟨h, Nat.le_succ _, Nat.zero_le _⟩
      · rename_i chs t' e
        exact ⟨putT_vw h hs hr e, putT_len hs e⟩
end Go.Proofs.Ytanhibhcmfmeeaa.Ag
/- Two vertices' stores side by side. -/
namespace Go.Proofs.Ytanhibhcmfmeeaa.Ag
open Go.RowKit Go.Proofs.YtanhibhcmfmeeaaW.PrintWords Go.Proofs.YtanhibhcmfmeeaaW.PrintMore Go.Proofs.Ytanhibhcmfmeeaa.Cut Go.Proofs.Ytanhibhcmfmeeaa.Fr Go.Proofs.Ytanhibhcmfmeeaa.SlK Go.Proofs.Ytanhibhcmfmeeaa.Ex
open Go.Proofs.Ytanhibhcmfmeeaa.Win (St P2 startF)
open Go.Proofs.Ytanhibhcmfmeeaa.Se (L4 S4)
structure Two (w0 w : World) (a1 a2 : Nat) (n : Int) (x : Ex) (t1 t2 : Tb) (F1 F2 : Nat → Prop) : Prop where
  o1 : AgO w0 w a1 n x t1 F1
  o2 : AgO w0 w a2 n x t2 F2
  dj : ∀ k, F1 k → ¬ F2 k
  n1 : ¬ F1 a2
  n2 : ¬ F2 a1
  ne : a1 ≠ a2
theorem Two.below {w0 w w' : World} {a1 a2 : Nat} {n : Int} {x : Ex} {t1 t2 : Tb} {F1 F2 : Nat → Prop} (h : Two w0 w a1 a2 n x t1 t2 F1 F2) (hb : Below w.heap.size w w') : Two w0 w' a1 a2 n x t1 t2 F1 F2 := ⟨h.o1.below hb, h.o2.below hb, h.dj, h.n1, h.n2, h.ne⟩
theorem Two.one {w0 w w' : World} {a1 a2 : Nat} {n : Int} {x : Ex} {t1 t1' t2 : Tb} {F1 F1' F2 : Nat → Prop} (h : Two w0 w a1 a2 n x t1 t2 F1 F2) (ho : AgO w0 w' a1 n x t1' F1') (hm : Mv w w' F1 F1') : Two w0 w' a1 a2 n x t1' t2 F1' F2 :=
  ⟨ho, h.o2.mv hm (fun k hk => (h.o1.lt k hk).1) (fun k hk e => h.dj k e hk) h.n1, fun k hk e => (hm.new k hk).elim (fun h' => h.dj k h' e) (fun h' => by have := (h.o2.lt k e).2; omega), fun e => (hm.new a2 e).elim h.n1 (fun h' => by have := h.o2.alt.2; omega), h.n2, h.ne⟩
theorem Two.two {w0 w w' : World} {a1 a2 : Nat} {n : Int} {x : Ex} {t1 t2 t2' : Tb} {F1 F2 F2' : Nat → Prop} (h : Two w0 w a1 a2 n x t1 t2 F1 F2) (ho : AgO w0 w' a2 n x t2' F2') (hm : Mv w w' F2 F2') : Two w0 w' a1 a2 n x t1 t2' F1 F2' :=
  ⟨h.o1.mv hm (fun k hk => (h.o2.lt k hk).1) (fun k hk e => h.dj k hk e) h.n2, ho, fun k hk e => (hm.new k e).elim (fun h' => h.dj k hk h') (fun h' => by have := (h.o1.lt k hk).2; omega), h.n1, fun e => (hm.new a1 e).elim h.n2 (fun h' => by have := h.o1.alt.2; omega), h.ne⟩
theorem Two.start {w0 w1 w3 : World} {a1 a2 : Nat} {n : Int} {x : Ex} {t1 t2 : Tb} {F1 F2 : Nat → Prop} (h1 : AgO w0 w1 a1 n x t1 F1) (hb : Below w1.heap.size w1 w3) (h2 : AgO w0 w3 a2 n x t2 F2) (hF : ∀ k, F2 k → w1.heap.size ≤ k) (ha : w1.heap.size ≤ a2) : Two w0 w3 a1 a2 n x t1 t2 F1 F2 :=
  ⟨h1.below hb, h2, fun k hk e => by have := (h1.lt k hk).2; have := hF k e; omega, fun e => by have := (h1.lt _ e).2; omega, fun e => by have := hF _ e; have := h1.alt.2; omega, fun e => by have := h1.alt.2; omega⟩
theorem three_rows (w : World) (a b c : Obj) : ∃ W, W = ((w.alloc a).alloc b).alloc c ∧ Below w.heap.size w W ∧ W.heap.size = w.heap.size + 3 ∧ W.heap[w.heap.size]? = some a ∧ W.heap[w.heap.size + 1]? = some b ∧ W.heap[w.heap.size + 1 + 1]? = some c := by
  refine ⟨_, rfl, below_alloc (below_alloc (below_alloc (Below.refl _ _) _) _) _, by simp, ?_, ?_, ?_⟩
  · rw [(Go.MapKept.heap_alloc _ _).2 _ (by simp; omega), (Go.MapKept.heap_alloc _ _).2 _ (by simp), (Go.MapKept.heap_alloc w _).1]
  · rw [(Go.MapKept.heap_alloc _ _).2 _ (by simp)]
    simpa using (Go.MapKept.heap_alloc (w.alloc a) b).1
  · simpa using (Go.MapKept.heap_alloc ((w.alloc a).alloc b) c).1
/-- A row of changes that was made is kept by a step on elder blocks. -/
theorem row5_mv {w w' : World} {base : Nat} {v : Value} {l : List T5} (h : Row5 w base v l) {G G' : Nat → Prop} (hm : Mv w w' G G') (hG : ∀ k, G k → k < base) : Row5 w' base v l :=
  Kd.R_mono (Kd.R_move (Kd.R_bound h) fun k hk => hm.keep k hk.2.2.1 (fun e => by have := hG k e; have := hk.2.1; omega)) fun _ _ => trivial
end Go.Proofs.Ytanhibhcmfmeeaa.Ag
