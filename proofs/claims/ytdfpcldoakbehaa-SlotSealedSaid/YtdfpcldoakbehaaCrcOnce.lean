import Derived.Test.YtdfpcldoakbehaaProg
import Derived.Test.YtdfpcldoakbehaaWZeros
import Derived.Test.YtdfpcldoakbehaaWMore
import Derived.Lib.Hide
import Derived.Tactics
import Derived.Tactics2
import Derived.Defers
import Derived.Laws.Pointers
import Derived.Laws.LoneSync
import Derived.RegionTactic
import Derived.RegionCalls
import Derived.Laws.NewBlocks
import Derived.Outline
/- The table of crc: sync.Once in one goroutine, the closure that fills the table, and the table's 'at'. -/
namespace Go.Proofs.Ytdfpcldoakbehaa.Crc
open Go.RowKit Go.Proofs.YtdfpcldoakbehaaW.PrintWords
set_option maxRecDepth 1000000

/-- The table's cells: done, the lock's state, the lock's second word, the rows. -/
def tb (d s : Int) (l : List Value) : Array Value := (Value.int .u32 d :: Value.int .i32 s :: Value.int .u32 0 :: l).toArray
theorem tb_0 (d s : Int) (l : List Value) (d' : Int) : (tb d s l).setIfInBounds 0 (.int .u32 d') = tb d' s l := by simp [tb]
theorem tb_1 (d s : Int) (l : List Value) (s' : Int) : (tb d s l).setIfInBounds 1 (.int .i32 s') = tb d s' l := by simp [tb]
theorem tb_3 (d s : Int) (l : List Value) (k : Nat) (v : Value) : (tb d s l).setIfInBounds (3 + k) v = tb d s (l.set k v) := by
  unfold tb
  rw [List.setIfInBounds_toArray, show 3 + k = k + 1 + 1 + 1 by omega]
  simp [List.set_cons_succ]
theorem tb_at0 (d s : Int) (l : List Value) : (tb d s l)[0]? = some (.int .u32 d) := by simp [tb]
theorem tb_at1 (d s : Int) (l : List Value) : (tb d s l)[1]? = some (.int .i32 s) := by simp [tb]
theorem tb_at3 (d s : Int) (l : List Value) (k : Nat) : (tb d s l)[3 + k]? = l[k]? := by
  unfold tb
  rw [List.getElem?_toArray, show 3 + k = k + 1 + 1 + 1 by omega]
  simp
/-- One bit of a byte's part, as the code reckons it. -/
def bitS (x : Int) : Int := bits .xor .u32 (x / 2) (bits .and .u32 2197175160 (-bits .and .u32 x 1 % 4294967296))
def it8 : Nat → Int → Int
  | 0, x => x
  | n + 1, x => bitS (it8 n x)
/-- The rows, of which the first k are filled. -/
def tl (k : Nat) : List Value := (List.range 256).map fun j => Value.int .u32 (if j < k then it8 8 j else 0)
theorem tl_at (k j : Nat) (hj : j < 256) : (tl k)[j]? = some (.int .u32 (if j < k then it8 8 j else 0)) := by
  unfold tl; rw [List.getElem?_map, List.getElem?_range hj]; rfl
theorem tl_set (k : Nat) (hk : k < 256) : (tl k).set k (.int .u32 (it8 8 k)) = tl (k + 1) := by
  apply List.ext_getElem?
  intro j
  rw [List.getElem?_set]
  by_cases hj : j < 256
  · rw [tl_at _ j hj, tl_at _ j hj]
    have hl : (tl k).length = 256 := by simp [tl]
    by_cases e : k = j
    · subst e; rw [if_pos rfl, if_pos (by omega), if_pos (by omega)]
    · rw [if_neg e]
      by_cases h1 : j < k
      · rw [if_pos h1, if_pos (by omega)]
      · rw [if_neg h1, if_neg (by omega)]
  · have h1 : (tl k).length = 256 := by simp [tl]
    have h2 : (tl (k + 1)).length = 256 := by simp [tl]
    rw [if_neg (by omega), List.getElem?_eq_none (by omega), List.getElem?_eq_none (by omega)]

theorem gset (w : World) (g j : Nat) (v : Value) : w.grownBy (w.setCell ⟨g, j, none⟩ v) (some g) := ⟨rfl, rfl, rfl, by simp, fun k _ hk => Below.heap_setCell w ⟨g, j, none⟩ v k (fun e => hk (by rw [e]))⟩
theorem gdrew (w : World) (row : Option Nat) : w.grownBy w.drew row := ⟨rfl, rfl, rfl, Nat.le_refl _, fun _ _ _ => rfl⟩

theorem disable (w : World) : (callFunc 74 #[]).run Try.prog w = .ok (.value (.tuple #[])) w := run_call_mark0 Try.func74 (by kernel_rfl) (by kernel_rfl) (by kernel_rfl) .disable (by kernel_rfl) w
theorem enable (w : World) : (callFunc 76 #[]).run Try.prog w = .ok (.value (.tuple #[])) w := run_call_mark0 Try.func76 (by kernel_rfl) (by kernel_rfl) (by kernel_rfl) .enable (by kernel_rfl) w
theorem acquire (a : Addr) (w : World) : (callFunc 77 #[.pointer (some a)]).run Try.prog w = .ok (.value (.tuple #[])) w := run_call_marked Try.func77 (by kernel_rfl) (by kernel_rfl) (by kernel_rfl) .acquire (by kernel_rfl) a w
theorem releaseMerge (a : Addr) (w : World) : (callFunc 79 #[.pointer (some a)]).run Try.prog w = .ok (.value (.tuple #[])) w := run_call_marked Try.func79 (by kernel_rfl) (by kernel_rfl) (by kernel_rfl) .releaseMerge (by kernel_rfl) a w

theorem store_deferred (a : Addr) (x : Value) (u : FrameMode) (w : World) (hc : w.cell? a = some x) (hz : w.frozen? a = false) :
    CallsD Try.prog 69 #[.pointer (some a), .bool true] u w fun e u' w' => u' = u ∧ (e = .returned (.tuple #[]) ∧ w' = w.drew.setCell a (.int .u32 1)) := by
  have hc' : w.drew.cell? a = some x := by go_simp
  have hz' : w.drew.frozen? a = false := by go_simp
  have hst := run_call_store (P := Try.prog) Try.func72 (by kernel_rfl) (by kernel_rfl) (by kernel_rfl) (by kernel_rfl) (k := .u32) (y := 1) hc' hz'
  go_enter_d Try.func69, Try.ntmps69
  go_wp2
  go_region_calls
  all_goals (go_end0; exact ⟨rfl, rfl⟩)

theorem unlock_deferred (a : Addr) (u : FrameMode) (w : World) (hc : w.cell? a = some (.int .i32 1)) (hz : w.frozen? a = false) :
    CallsD Try.prog 68 #[.pointer (some a)] u w fun e u' w' => u' = u ∧ (e = .returned (.tuple #[]) ∧ w' = w.setCell a (.int .i32 0)) := by
  have hd := disable
  have he := enable
  have hr := releaseMerge
  have hadd := run_call_add (P := Try.prog) Try.func80 (by kernel_rfl) (by kernel_rfl) (by kernel_rfl) .i32 (by kernel_rfl) (y := -1) (s := 0) hc hz (by simp [go_sem]; rfl)
  have hcv := run_convert_to_unsafe (P := Try.prog) (src := 139) (dst := 143) Try.underlying139 Try.underlying143 (by kernel_rfl) hc
  go_enter_d Try.func68, Try.ntmps68
  go_wp2
  go_end0
  go_wp2
  go_end0
  exact ⟨rfl, rfl⟩

theorem lock_free (a : Addr) (w : World) (hc : w.cell? a = some (.int .i32 0)) (hz : w.frozen? a = false) :
    Calls Try.prog 67 #[.pointer (some a)] w fun e w' => e = .returned (.tuple #[]) ∧ w' = w.setCell a (.int .i32 1) := by
  have hd := disable
  have he := enable
  have ha := acquire
  have hcas := run_call_cas_hit (P := Try.prog) Try.func75 (by kernel_rfl) (by kernel_rfl) (by kernel_rfl) .i32 (by kernel_rfl) (y := 1) hc hz
  have hc' : (w.setCell a (.int .i32 1)).cell? a = some (.int .i32 1) := World.cell?_setCell_same w a _ hc
  have hcv := run_convert_to_unsafe (P := Try.prog) (src := 139) (dst := 143) Try.underlying139 Try.underlying143 (by kernel_rfl) hc'
  go_enter Try.func67, Try.ntmps67
  go_wp2
  first | go_end0 | (simp only [Exit.inBlock, Exit.then]; refine bodyPost_ret (results_none rfl _ _ _) rfl ?_) | refine bodyPost_ret (results_none rfl _ _ _) rfl ?_
  go_wp2
  go_end0
  exact ⟨rfl, rfl⟩

set_option maxRecDepth 100000 in
set_option maxHeartbeats 1600000 in
/-- The closure: it fills the rows. -/
theorem fill_calls (g : Nat) (pl : Addr) (w : World) (hp : w.cell? pl = some (.pointer (some ⟨g, 0, none⟩))) (hne : pl.block ≠ g) (hb : w.heap[g]? = some (.cells (tb 0 1 (tl 0)) 125 (0, 0))) :
    Calls Try.prog 63 #[.pointer (some pl)] w fun e w' => e = .returned (.tuple #[]) ∧ w'.heap[g]? = some (.cells (tb 0 1 (tl 256)) 125 (0, 0)) ∧ w.grownBy w' (some g) := by
  have HB := Lib.hid hb
  have HP := Lib.hid hp
  clear hb hp
  go_enter Try.func63, Try.ntmps63
  go_wp2
  go_loopw [3] (fun i wr => ∃ k : Nat, k ≤ 256 ∧ i = .int .i64 k ∧ wr.heap[g]? = some (.cells (tb 0 1 (tl k)) 125 (0, 0)) ∧ w.grownBy wr (some g)) (fun i _ => 256 - (intOf i).toNat)
  case atStart => exact ⟨0, by omega, rfl, HB.out, World.grownBy.refl w _⟩
  case round =>
    obtain ⟨k, hk, rfl, hbk, hgr⟩ := hrel
    have HBk := Lib.hid hbk; have HGr := Lib.hid hgr
    clear hbk hgr
    by_cases hlt : k < 256
    · have hki : ((k : Nat) : Int) < 256 := by omega
      obtain ⟨wo, rfl⟩ : ∃ wo : World, wo = wr := ⟨_, rfl⟩
      go_wp2
      go_loop [2, 8] (fun x i => ∃ m : Nat, m ≤ 8 ∧ i = .int .i64 m ∧ x = .int .u32 (it8 m k)) (fun _ i => 8 - (intOf i).toNat)
      case atStart => exact ⟨0, by omega, rfl, rfl⟩
      case round =>
        obtain ⟨m, hm, rfl, rfl⟩ := hrel
        by_cases hm8 : m < 8
        · have hmi : ((m : Nat) : Int) < 8 := by omega
          go_wp2
          go_round
          case rel => exact ⟨m + 1, by omega, by go_num, rfl⟩
          case measure => simp [intOf]; omega
        · obtain rfl : m = 8 := by omega
          clear hm8 hm
          have hp' : wo.cell? pl = some (.pointer (some ⟨g, 0, none⟩)) := (World.cell?_of_block (w := w) (HGr.out.block pl.block (World.block_lt_of_cell? w pl HP.out) (fun e => hne (by injection e)))).trans HP.out
          have hc3 : wo.cell? ⟨g, 3 + k, none⟩ = some (.int .u32 0) := by
            rw [blk_cell HBk.out, tb_at3, tl_at k k hlt, if_neg (by omega)]
          have hf3 : wo.frozen? ⟨g, 3 + k, none⟩ = false := blk_frozen HBk.out _
          have hk0 : (0 : Int) ≤ (k : Int) := by omega
          have hb2 := heap_setCell_same wo g (3 + k) _ _ (.int .u32 (it8 8 k)) HBk.out
          rw [tb_3, tl_set k hlt] at hb2
          have HB2 := Lib.hid hb2
          have HG2 := Lib.hid (HGr.out.trans (gset wo g (3 + k) (.int .u32 (it8 8 k))))
          clear hb2
          go_wp2
          go_roundw
          case rel => exact ⟨k + 1, by omega, by go_num, HB2.out, HG2.out⟩
          case measure => simp [intOf]; omega
    · obtain rfl : k = 256 := by omega
      go_wp2
      go_end0
      exact ⟨rfl, HBk.out, HGr.out⟩

set_option maxRecDepth 100000 in
set_option maxHeartbeats 1600000 in
theorem slow_calls (g : Nat) (pl : Addr) (w : World) (hp : w.cell? pl = some (.pointer (some ⟨g, 0, none⟩))) (hne : pl.block ≠ g) (hb : w.heap[g]? = some (.cells (tb 0 0 (tl 0)) 125 (0, 0))) :
    Calls Try.prog 65 #[.pointer (some ⟨g, 0, none⟩), .func (.func 63) #[] #[.pointer (some pl)]] w fun e w' => e = .returned (.tuple #[]) ∧ w'.heap[g]? = some (.cells (tb 1 0 (tl 256)) 125 (0, 0)) ∧ w.grownBy w' (some g) := by
  have h0 : w.cell? ⟨g, 0, none⟩ = some (.int .u32 0) := by rw [blk_cell hb, tb_at0]
  have h1 : w.cell? ⟨g, 1, none⟩ = some (.int .i32 0) := by rw [blk_cell hb, tb_at1]
  have f0 : w.frozen? ⟨g, 0, none⟩ = false := blk_frozen hb _
  have f1 : w.frozen? ⟨g, 1, none⟩ = false := blk_frozen hb _
  have b1 := heap_setCell_same w g 1 _ _ (.int .i32 1) hb
  rw [tb_1] at b1
  have g1 := gset w g 1 (.int .i32 1)
  have hl0 : (w.setCell ⟨g, 1, none⟩ (.int .i32 1)).cell? ⟨g, 0, none⟩ = some (.int .u32 0) := by rw [blk_cell b1, tb_at0]
  have hl := run_call_load (P := Try.prog) Try.func66 (by kernel_rfl) (by kernel_rfl) (by kernel_rfl) .u32 (by kernel_rfl) hl0
  have hp1 : (w.setCell ⟨g, 1, none⟩ (.int .i32 1)).cell? pl = some (.pointer (some ⟨g, 0, none⟩)) := (World.cell?_of_block (w := w) (Below.heap_setCell w ⟨g, 1, none⟩ _ pl.block hne)).trans hp
  have hnot : ∀ (x : Bool) (w : World), (Op.unary .not (.bool x)).run Try.prog w = .ok (.bool (!x)) w := fun _ _ => rfl
  have B1 := Lib.hid b1; have G1 := Lib.hid g1; have HP1 := Lib.hid hp1
  clear b1 g1 hb hl0 hp hp1
  go_enter_defers Try.func65, Try.ntmps65
  go_wp2_with (go_at_call 67; refine (lock_free ⟨g, 1, none⟩ _ h1 f1).mono ?_; rintro e w' ⟨rfl, rfl⟩)
  go_wp2_with (first | (go_at_call 64; go_in) | (go_at_call 63; refine (fill_calls g pl _ HP1.out hne B1.out).mono ?_; rintro e w2 ⟨rfl, hb2, hg2⟩))
  have B2 := Lib.hid hb2; have G2 := Lib.hid hg2
  have c0 : w2.cell? ⟨g, 0, none⟩ = some (.int .u32 0) := by rw [blk_cell hb2, tb_at0]
  have z0 : w2.frozen? ⟨g, 0, none⟩ = false := blk_frozen hb2 _
  have b3 : (w2.drew.setCell ⟨g, 0, none⟩ (.int .u32 1)).heap[g]? = some (.cells (tb 1 1 (tl 256)) 125 (0, 0)) := by
    have := heap_setCell_same w2.drew g 0 _ _ (.int .u32 1) (show w2.drew.heap[g]? = _ from hb2)
    rwa [tb_0] at this
  have c1 : (w2.drew.setCell ⟨g, 0, none⟩ (.int .u32 1)).cell? ⟨g, 1, none⟩ = some (.int .i32 1) := by rw [blk_cell b3, tb_at1]
  have z1 : (w2.drew.setCell ⟨g, 0, none⟩ (.int .u32 1)).frozen? ⟨g, 1, none⟩ = false := blk_frozen b3 _
  have b4 := heap_setCell_same _ g 1 _ _ (.int .i32 0) b3
  rw [tb_1] at b4
  clear hb2 hg2
  refine leaves_cons (f := 69) (args := #[.pointer (some ⟨g, 0, none⟩), .bool true]) (by simp) (by simp [go_sem]) ?_
  refine (store_deferred ⟨g, 0, none⟩ (.int .u32 0) .returning _ c0 z0).mono ?_
  rintro e u' w'' ⟨rfl, rfl, rfl⟩
  refine leaves_cons (f := 68) (args := #[.pointer (some ⟨g, 1, none⟩)]) (by simp [settle]) (by simp [go_sem]) ?_
  refine (unlock_deferred ⟨g, 1, none⟩ _ _ c1 z1).mono ?_
  rintro e u' w'' ⟨rfl, rfl, rfl⟩
  have hfin : w.grownBy ((w2.drew.setCell ⟨g, 0, none⟩ (.int .u32 1)).setCell ⟨g, 1, none⟩ (.int .i32 0)) (some g) :=
    (((G1.out.trans G2.out).trans (gdrew _ _)).trans (gset _ g 0 _)).trans (gset _ g 1 _)
  simp [Leaves, settle, results, Try.results65]
  exact ⟨b4, hfin⟩

set_option maxRecDepth 100000 in
set_option maxHeartbeats 1600000 in
theorem do_first (g : Nat) (pl : Addr) (w : World) (hp : w.cell? pl = some (.pointer (some ⟨g, 0, none⟩))) (hne : pl.block ≠ g) (hb : w.heap[g]? = some (.cells (tb 0 0 (tl 0)) 125 (0, 0))) :
    Calls Try.prog 62 #[.pointer (some ⟨g, 0, none⟩), .func (.func 63) #[] #[.pointer (some pl)]] w fun e w' => e = .returned (.tuple #[]) ∧ w'.heap[g]? = some (.cells (tb 1 0 (tl 256)) 125 (0, 0)) ∧ w.grownBy w' (some g) := by
  have h0 : w.cell? ⟨g, 0, none⟩ = some (.int .u32 0) := by rw [blk_cell hb, tb_at0]
  have hl := run_call_load (P := Try.prog) Try.func66 (by kernel_rfl) (by kernel_rfl) (by kernel_rfl) .u32 (by kernel_rfl) h0
  have hnot : ∀ (x : Bool) (w : World), (Op.unary .not (.bool x)).run Try.prog w = .ok (.bool (!x)) w := fun _ _ => rfl
  have HB := Lib.hid hb; have HP := Lib.hid hp
  clear hb hp
  go_enter Try.func62, Try.ntmps62
  go_wp2_with (first | (go_at_call 65; refine (slow_calls g pl _ HP.out hne HB.out).mono ?_; rintro e w' ⟨rfl, hb2, hg2⟩) | (go_at_call 64; go_in))
  go_end0
  exact ⟨rfl, hb2, hg2⟩

theorem do_done (a : Addr) (fv : Value) (w : World) (h0 : w.cell? a = some (.int .u32 1)) :
    Calls Try.prog 62 #[.pointer (some a), fv] w fun e w' => e = .returned (.tuple #[]) ∧ w' = w := by
  have hl := run_call_load (P := Try.prog) Try.func66 (by kernel_rfl) (by kernel_rfl) (by kernel_rfl) .u32 (by kernel_rfl) h0
  have hnot : ∀ (x : Bool) (w : World), (Op.unary .not (.bool x)).run Try.prog w = .ok (.bool (!x)) w := fun _ _ => rfl
  go_enter Try.func62, Try.ntmps62
  go_wp2
  go_end0
  exact ⟨rfl, rfl⟩

/-- The table at g: not yet filled, or filled. -/
def Tb (w : World) (g : Nat) : Prop := w.heap[g]? = some (.cells (tb 0 0 (tl 0)) 125 (0, 0)) ∨ w.heap[g]? = some (.cells (tb 1 0 (tl 256)) 125 (0, 0))
theorem Tb.lt {w : World} {g : Nat} (h : Tb w g) : g < w.heap.size := by rcases h with h | h <;> exact (Array.getElem?_eq_some_iff.1 h).1
theorem Tb.move {w w' : World} {g : Nat} (h : Tb w g) (hm : w'.heap[g]? = w.heap[g]?) : Tb w' g := by
  rcases h with h | h
  · exact .inl (hm.trans h)
  · exact .inr (hm.trans h)

set_option maxRecDepth 100000 in
set_option maxHeartbeats 1600000 in
theorem at_calls (g : Nat) (c : Nat) (w : World) (hc : c < 256) (hb : Tb w g) :
    Calls Try.prog 60 #[.pointer (some ⟨g, 0, none⟩), .int .u8 c] w fun e w' => e = .returned (.int .u32 (it8 8 c)) ∧ Tb w' g ∧ w.grownBy w' (some g) := by
  have hmf : ∀ (fn : Fn) (first cap : Array Value) (w : World), (Instr.makeFunc fn first cap).run Try.prog w = .ok (.func fn first cap) w := fun _ _ _ _ => rfl
  have hlt := hb.lt
  have q0 : (0 : Int) ≤ (c : Int) := by omega
  have q1 : (c : Int) < 256 := by omega
  have p0 : (w.alloc (.cells #[.pointer (some ⟨g, 0, none⟩)] 111)).cell? ⟨w.heap.size, 0, none⟩ = some (.pointer (some ⟨g, 0, none⟩)) := by simp
  have ga := World.grownBy_alloc w (.cells #[.pointer (some ⟨g, 0, none⟩)] 111) (some g)
  have hne : w.heap.size ≠ g := by omega
  have fin : ∀ w2 : World, (w.alloc (.cells #[.pointer (some ⟨g, 0, none⟩)] 111)).grownBy w2 (some g) → w2.cell? ⟨w.heap.size, 0, none⟩ = some (.pointer (some ⟨g, 0, none⟩)) := fun w2 hg2 => (World.cell?_of_block (w := w.alloc (.cells #[.pointer (some ⟨g, 0, none⟩)] 111)) (hg2.block w.heap.size (by simp) (fun e => hne (by injection e)))).trans p0
  have HP := Lib.hid p0; have HG := Lib.hid ga; have HF := Lib.hid fin
  clear p0 ga fin
  rcases hb with hb | hb
  · have hb1 : (w.alloc (.cells #[.pointer (some ⟨g, 0, none⟩)] 111)).heap[g]? = _ := (heap_alloc_old w _ hlt).trans hb
    have HB := Lib.hid hb1
    clear hb hb1
    go_enter Try.func60, Try.ntmps60
    go_wp2_with (go_at_call 62; refine (do_first g ⟨w.heap.size, 0, none⟩ _ HP.out hne HB.out).mono ?_; rintro e w2 ⟨rfl, hb2, hg2⟩; have B2 := Lib.hid hb2; have G2 := Lib.hid hg2; have k1 := HF.out _ hg2; have k2 : w2.cell? ⟨g, 3 + c, none⟩ = some (.int .u32 (it8 8 c)) := (by rw [blk_cell hb2, tb_at3, tl_at 256 c hc, if_pos hc]); clear hb2 hg2)
    go_ret
    exact ⟨rfl, .inr B2.out, HG.out.trans G2.out⟩
  · have hb1 : (w.alloc (.cells #[.pointer (some ⟨g, 0, none⟩)] 111)).heap[g]? = _ := (heap_alloc_old w _ hlt).trans hb
    have h0 : (w.alloc (.cells #[.pointer (some ⟨g, 0, none⟩)] 111)).cell? ⟨g, 0, none⟩ = some (.int .u32 1) := by rw [blk_cell hb1, tb_at0]
    have k2 : (w.alloc (.cells #[.pointer (some ⟨g, 0, none⟩)] 111)).cell? ⟨g, 3 + c, none⟩ = some (.int .u32 (it8 8 c)) := (by rw [blk_cell hb1, tb_at3, tl_at 256 c hc, if_pos hc])
    have HB := Lib.hid hb1
    have k1 := HP.out
    clear hb hb1
    go_enter Try.func60, Try.ntmps60
    go_wp2_with (go_at_call 62; refine (do_done ⟨g, 0, none⟩ _ _ h0).mono ?_; rintro e w2 ⟨rfl, rfl⟩)
    go_ret
    exact ⟨rfl, .inr HB.out, HG.out⟩
end Go.Proofs.Ytdfpcldoakbehaa.Crc
