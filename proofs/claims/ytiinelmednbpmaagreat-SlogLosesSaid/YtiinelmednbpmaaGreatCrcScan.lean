import Derived.Test.YtiinelmednbpmaaGreatProg
import Derived.Test.YtiinelmednbpmaaGreatWZeros
import Derived.Test.YtiinelmednbpmaaGreatWMore
import Derived.Lib.Hide
import Derived.Tactics
import Derived.Tactics2
import Derived.Defers
import Derived.Laws.Pointers
import Derived.Laws.LoneSync
import Derived.RegionTactic
import Derived.RegionCalls
import Derived.Laws.NewBlocks
import Derived.Outline
import Derived.Test.YtiinelmednbpmaaGreatCut
import Derived.BigQuiet
import Derived.Deep.QuietTactic
import Derived.Deep.DeepCutAuto
import Derived.Deep.RegionHeld3
import Derived.Laws.Tables
import Derived.Laws.BitsAllLaws
import Derived.WalkMore
import Derived.ScopeJumps
import Derived.Test.YtiinelmednbpmaaGreatRow
import Derived.Laws.StructEq
import Derived.Deep.DrawnRows
import Derived.Test.YtiinelmednbpmaaGreatWInvWords
import Derived.Test.YtiinelmednbpmaaGreatWApart
/- The table of crc: sync.Once in one goroutine, the closure that fills the table, and the table's 'at'. -/
namespace Go.Proofs.YtiinelmednbpmaaGreat.Crc
open Go.RowKit Go.Proofs.YtiinelmednbpmaaGreatW.PrintWords
set_option maxRecDepth 1000000

/-- The table's cells: done, the lock's state, the lock's second word, the rows. -/
def tb (d s : Int) (l : List Value) : Array Value := (Value.int .u32 d :: Value.int .i32 s :: Value.int .u32 0 :: l).toArray
theorem tb_0 (d s : Int) (l : List Value) (d' : Int) : (tb d s l).setIfInBounds 0 (.int .u32 d') = tb d' s l := by simp [tb]
theorem tb_1 (d s : Int) (l : List Value) (s' : Int) : (tb d s l).setIfInBounds 1 (.int .i32 s') = tb d s' l := by simp [tb]
theorem tb_3 (d s : Int) (l : List Value) (k : Nat) (v : Value) : (tb d s l).setIfInBounds (3 + k) v = tb d s (l.set k v) := by
  unfold tb
  rw [List.setIfInBounds_toArray, show 3 + k = k + 1 + 1 + 1 by omega]
  simp [List.set_cons_succ]
theorem tb_at0 (d s : Int) (l : List Value) : (tb d s l)[0]? = some (.int .u32 d) := by simp [tb]
theorem tb_at1 (d s : Int) (l : List Value) : (tb d s l)[1]? = some (.int .i32 s) := by simp [tb]
theorem tb_at3 (d s : Int) (l : List Value) (k : Nat) : (tb d s l)[3 + k]? = l[k]? := by
  unfold tb
  rw [List.getElem?_toArray, show 3 + k = k + 1 + 1 + 1 by omega]
  simp
/-- One bit of a byte's part, as the code reckons it. -/
def bitS (x : Int) : Int := bits .xor .u32 (x / 2) (bits .and .u32 2197175160 (-bits .and .u32 x 1 % 4294967296))
def it8 : Nat → Int → Int
  | 0, x => x
  | n + 1, x => bitS (it8 n x)
/-- The rows, of which the first k are filled. -/
def tl (k : Nat) : List Value := (List.range 256).map fun j => Value.int .u32 (if j < k then it8 8 j else 0)
theorem tl_at (k j : Nat) (hj : j < 256) : (tl k)[j]? = some (.int .u32 (if j < k then it8 8 j else 0)) := by
  unfold tl; rw [List.getElem?_map, List.getElem?_range hj]; rfl
theorem tl_set (k : Nat) (hk : k < 256) : (tl k).set k (.int .u32 (it8 8 k)) = tl (k + 1) := by
  apply List.ext_getElem?
  intro j
  rw [List.getElem?_set]
  by_cases hj : j < 256
  · rw [tl_at _ j hj, tl_at _ j hj]
    have hl : (tl k).length = 256 := by simp [tl]
    by_cases e : k = j
    · subst e; rw [if_pos rfl, if_pos (by omega), if_pos (by omega)]
    · rw [if_neg e]
      by_cases h1 : j < k
      · rw [if_pos h1, if_pos (by omega)]
      · rw [if_neg h1, if_neg (by omega)]
  · have h1 : (tl k).length = 256 := by simp [tl]
    have h2 : (tl (k + 1)).length = 256 := by simp [tl]
    rw [if_neg (by omega), List.getElem?_eq_none (by omega), List.getElem?_eq_none (by omega)]

theorem gset (w : World) (g j : Nat) (v : Value) : w.grownBy (w.setCell ⟨g, j, none⟩ v) (some g) := ⟨rfl, rfl, rfl, by simp, fun k _ hk => Below.heap_setCell w ⟨g, j, none⟩ v k (fun e => hk (by rw [e]))⟩
theorem gdrew (w : World) (row : Option Nat) : w.grownBy w.drew row := ⟨rfl, rfl, rfl, Nat.le_refl _, fun _ _ _ => rfl⟩

theorem disable (w : World) : (callFunc 136 #[]).run Tryz.prog w = .ok (.value (.tuple #[])) w := run_call_mark0 Tryz.func136 (by kernel_rfl) (by kernel_rfl) (by kernel_rfl) .disable (by kernel_rfl) w
theorem enable (w : World) : (callFunc 138 #[]).run Tryz.prog w = .ok (.value (.tuple #[])) w := run_call_mark0 Tryz.func138 (by kernel_rfl) (by kernel_rfl) (by kernel_rfl) .enable (by kernel_rfl) w
theorem acquire (a : Addr) (w : World) : (callFunc 139 #[.pointer (some a)]).run Tryz.prog w = .ok (.value (.tuple #[])) w := run_call_marked Tryz.func139 (by kernel_rfl) (by kernel_rfl) (by kernel_rfl) .acquire (by kernel_rfl) a w
theorem releaseMerge (a : Addr) (w : World) : (callFunc 141 #[.pointer (some a)]).run Tryz.prog w = .ok (.value (.tuple #[])) w := run_call_marked Tryz.func141 (by kernel_rfl) (by kernel_rfl) (by kernel_rfl) .releaseMerge (by kernel_rfl) a w

theorem store_deferred (a : Addr) (x : Value) (u : FrameMode) (w : World) (hc : w.cell? a = some x) (hz : w.frozen? a = false) :
    CallsD Tryz.prog 131 #[.pointer (some a), .bool true] u w fun e u' w' => u' = u ∧ (e = .returned (.tuple #[]) ∧ w' = w.drew.setCell a (.int .u32 1)) := by
  have hc' : w.drew.cell? a = some x := by go_simp
  have hz' : w.drew.frozen? a = false := by go_simp
  have hst := run_call_store (P := Tryz.prog) Tryz.func134 (by kernel_rfl) (by kernel_rfl) (by kernel_rfl) (by kernel_rfl) (k := .u32) (y := 1) hc' hz'
  go_enter_d Tryz.func131, Tryz.ntmps131
  go_wp2
  go_region_calls
  all_goals (go_end0; exact ⟨rfl, rfl⟩)

theorem unlock_deferred (a : Addr) (u : FrameMode) (w : World) (hc : w.cell? a = some (.int .i32 1)) (hz : w.frozen? a = false) :
    CallsD Tryz.prog 130 #[.pointer (some a)] u w fun e u' w' => u' = u ∧ (e = .returned (.tuple #[]) ∧ w' = w.setCell a (.int .i32 0)) := by
  have hd := disable
  have he := enable
  have hr := releaseMerge
  have hadd := run_call_add (P := Tryz.prog) Tryz.func82 (by kernel_rfl) (by kernel_rfl) (by kernel_rfl) .i32 (by kernel_rfl) (y := -1) (s := 0) hc hz (by simp [go_sem]; rfl)
  have hcv := run_convert_to_unsafe (P := Tryz.prog) (src := 224) (dst := 227) Tryz.underlying224 Tryz.underlying227 (by kernel_rfl) hc
  go_enter_d Tryz.func130, Tryz.ntmps130
  go_wp2
  go_end0
  go_wp2
  go_end0
  exact ⟨rfl, rfl⟩

theorem lock_free (a : Addr) (w : World) (hc : w.cell? a = some (.int .i32 0)) (hz : w.frozen? a = false) :
    Calls Tryz.prog 129 #[.pointer (some a)] w fun e w' => e = .returned (.tuple #[]) ∧ w' = w.setCell a (.int .i32 1) := by
  have hd := disable
  have he := enable
  have ha := acquire
  have hcas := run_call_cas_hit (P := Tryz.prog) Tryz.func137 (by kernel_rfl) (by kernel_rfl) (by kernel_rfl) .i32 (by kernel_rfl) (y := 1) hc hz
  have hc' : (w.setCell a (.int .i32 1)).cell? a = some (.int .i32 1) := World.cell?_setCell_same w a _ hc
  have hcv := run_convert_to_unsafe (P := Tryz.prog) (src := 224) (dst := 227) Tryz.underlying224 Tryz.underlying227 (by kernel_rfl) hc'
  go_enter Tryz.func129, Tryz.ntmps129
  go_wp2
  first | go_end0 | (simp only [Exit.inBlock, Exit.then]; refine bodyPost_ret (results_none rfl _ _ _) rfl ?_) | refine bodyPost_ret (results_none rfl _ _ _) rfl ?_
  go_wp2
  go_end0
  exact ⟨rfl, rfl⟩

set_option maxRecDepth 100000 in
set_option maxHeartbeats 1600000 in
/-- The closure: it fills the rows. -/
theorem fill_calls (g : Nat) (pl : Addr) (w : World) (hp : w.cell? pl = some (.pointer (some ⟨g, 0, none⟩))) (hne : pl.block ≠ g) (hb : w.heap[g]? = some (.cells (tb 0 1 (tl 0)) 210 (0, 0))) :
    Calls Tryz.prog 125 #[.pointer (some pl)] w fun e w' => e = .returned (.tuple #[]) ∧ w'.heap[g]? = some (.cells (tb 0 1 (tl 256)) 210 (0, 0)) ∧ w.grownBy w' (some g) := by
  have HB := Lib.hid hb
  have HP := Lib.hid hp
  clear hb hp
  go_enter Tryz.func125, Tryz.ntmps125
  go_wp2
  go_loopw [3] (fun i wr => ∃ k : Nat, k ≤ 256 ∧ i = .int .i64 k ∧ wr.heap[g]? = some (.cells (tb 0 1 (tl k)) 210 (0, 0)) ∧ w.grownBy wr (some g)) (fun i _ => 256 - (intOf i).toNat)
  case atStart => exact ⟨0, by omega, rfl, HB.out, World.grownBy.refl w _⟩
  case round =>
    obtain ⟨k, hk, rfl, hbk, hgr⟩ := hrel
    have HBk := Lib.hid hbk; have HGr := Lib.hid hgr
    clear hbk hgr
    by_cases hlt : k < 256
    · have hki : ((k : Nat) : Int) < 256 := by omega
      obtain ⟨wo, rfl⟩ : ∃ wo : World, wo = wr := ⟨_, rfl⟩
      go_wp2
      go_loop [2, 8] (fun x i => ∃ m : Nat, m ≤ 8 ∧ i = .int .i64 m ∧ x = .int .u32 (it8 m k)) (fun _ i => 8 - (intOf i).toNat)
      case atStart => exact ⟨0, by omega, rfl, rfl⟩
      case round =>
        obtain ⟨m, hm, rfl, rfl⟩ := hrel
        by_cases hm8 : m < 8
        · have hmi : ((m : Nat) : Int) < 8 := by omega
          go_wp2
          go_round
          case rel => exact ⟨m + 1, by omega, by go_num, rfl⟩
          case measure => simp [intOf]; omega
        · obtain rfl : m = 8 := by omega
          clear hm8 hm
          have hp' : wo.cell? pl = some (.pointer (some ⟨g, 0, none⟩)) := (World.cell?_of_block (w := w) (HGr.out.block pl.block (World.block_lt_of_cell? w pl HP.out) (fun e => hne (by injection e)))).trans HP.out
          have hc3 : wo.cell? ⟨g, 3 + k, none⟩ = some (.int .u32 0) := by
            rw [blk_cell HBk.out, tb_at3, tl_at k k hlt, if_neg (by omega)]
          have hf3 : wo.frozen? ⟨g, 3 + k, none⟩ = false := blk_frozen HBk.out _
          have hk0 : (0 : Int) ≤ (k : Int) := by omega
          have hb2 := heap_setCell_same wo g (3 + k) _ _ (.int .u32 (it8 8 k)) HBk.out
          rw [tb_3, tl_set k hlt] at hb2
          have HB2 := Lib.hid hb2
          have HG2 := Lib.hid (HGr.out.trans (gset wo g (3 + k) (.int .u32 (it8 8 k))))
          clear hb2
          go_wp2
          go_roundw
          case rel => exact ⟨k + 1, by omega, by go_num, HB2.out, HG2.out⟩
          case measure => simp [intOf]; omega
    · obtain rfl : k = 256 := by omega
      go_wp2
      go_end0
      exact ⟨rfl, HBk.out, HGr.out⟩

set_option maxRecDepth 100000 in
set_option maxHeartbeats 1600000 in
theorem slow_calls (g : Nat) (pl : Addr) (w : World) (hp : w.cell? pl = some (.pointer (some ⟨g, 0, none⟩))) (hne : pl.block ≠ g) (hb : w.heap[g]? = some (.cells (tb 0 0 (tl 0)) 210 (0, 0))) :
    Calls Tryz.prog 127 #[.pointer (some ⟨g, 0, none⟩), .func (.func 125) #[] #[.pointer (some pl)]] w fun e w' => e = .returned (.tuple #[]) ∧ w'.heap[g]? = some (.cells (tb 1 0 (tl 256)) 210 (0, 0)) ∧ w.grownBy w' (some g) := by
  have h0 : w.cell? ⟨g, 0, none⟩ = some (.int .u32 0) := by rw [blk_cell hb, tb_at0]
  have h1 : w.cell? ⟨g, 1, none⟩ = some (.int .i32 0) := by rw [blk_cell hb, tb_at1]
  have f0 : w.frozen? ⟨g, 0, none⟩ = false := blk_frozen hb _
  have f1 : w.frozen? ⟨g, 1, none⟩ = false := blk_frozen hb _
  have b1 := heap_setCell_same w g 1 _ _ (.int .i32 1) hb
  rw [tb_1] at b1
  have g1 := gset w g 1 (.int .i32 1)
  have hl0 : (w.setCell ⟨g, 1, none⟩ (.int .i32 1)).cell? ⟨g, 0, none⟩ = some (.int .u32 0) := by rw [blk_cell b1, tb_at0]
  have hl := run_call_load (P := Tryz.prog) Tryz.func128 (by kernel_rfl) (by kernel_rfl) (by kernel_rfl) .u32 (by kernel_rfl) hl0
  have hp1 : (w.setCell ⟨g, 1, none⟩ (.int .i32 1)).cell? pl = some (.pointer (some ⟨g, 0, none⟩)) := (World.cell?_of_block (w := w) (Below.heap_setCell w ⟨g, 1, none⟩ _ pl.block hne)).trans hp
  have hnot : ∀ (x : Bool) (w : World), (Op.unary .not (.bool x)).run Tryz.prog w = .ok (.bool (!x)) w := fun _ _ => rfl
  have B1 := Lib.hid b1; have G1 := Lib.hid g1; have HP1 := Lib.hid hp1
  clear b1 g1 hb hl0 hp hp1
  go_enter_defers Tryz.func127, Tryz.ntmps127
  go_wp2_with (go_at_call 129; refine (lock_free ⟨g, 1, none⟩ _ h1 f1).mono ?_; rintro e w' ⟨rfl, rfl⟩)
  go_wp2_with (first | (go_at_call 126; go_in) | (go_at_call 125; refine (fill_calls g pl _ HP1.out hne B1.out).mono ?_; rintro e w2 ⟨rfl, hb2, hg2⟩))
  have B2 := Lib.hid hb2; have G2 := Lib.hid hg2
  have c0 : w2.cell? ⟨g, 0, none⟩ = some (.int .u32 0) := by rw [blk_cell hb2, tb_at0]
  have z0 : w2.frozen? ⟨g, 0, none⟩ = false := blk_frozen hb2 _
  have b3 : (w2.drew.setCell ⟨g, 0, none⟩ (.int .u32 1)).heap[g]? = some (.cells (tb 1 1 (tl 256)) 210 (0, 0)) := by
    have := heap_setCell_same w2.drew g 0 _ _ (.int .u32 1) (show w2.drew.heap[g]? = _ from hb2)
    rwa [tb_0] at this
  have c1 : (w2.drew.setCell ⟨g, 0, none⟩ (.int .u32 1)).cell? ⟨g, 1, none⟩ = some (.int .i32 1) := by rw [blk_cell b3, tb_at1]
  have z1 : (w2.drew.setCell ⟨g, 0, none⟩ (.int .u32 1)).frozen? ⟨g, 1, none⟩ = false := blk_frozen b3 _
  have b4 := heap_setCell_same _ g 1 _ _ (.int .i32 0) b3
  rw [tb_1] at b4
  clear hb2 hg2
  refine leaves_cons (f := 131) (args := #[.pointer (some ⟨g, 0, none⟩), .bool true]) (by simp) (by simp [go_sem]) ?_
  refine (store_deferred ⟨g, 0, none⟩ (.int .u32 0) .returning _ c0 z0).mono ?_
  rintro e u' w'' ⟨rfl, rfl, rfl⟩
  refine leaves_cons (f := 130) (args := #[.pointer (some ⟨g, 1, none⟩)]) (by simp [settle]) (by simp [go_sem]) ?_
  refine (unlock_deferred ⟨g, 1, none⟩ _ _ c1 z1).mono ?_
  rintro e u' w'' ⟨rfl, rfl, rfl⟩
  have hfin : w.grownBy ((w2.drew.setCell ⟨g, 0, none⟩ (.int .u32 1)).setCell ⟨g, 1, none⟩ (.int .i32 0)) (some g) :=
    (((G1.out.trans G2.out).trans (gdrew _ _)).trans (gset _ g 0 _)).trans (gset _ g 1 _)
  simp [Leaves, settle, results, Tryz.results127]
  exact ⟨b4, hfin⟩

set_option maxRecDepth 100000 in
set_option maxHeartbeats 1600000 in
theorem do_first (g : Nat) (pl : Addr) (w : World) (hp : w.cell? pl = some (.pointer (some ⟨g, 0, none⟩))) (hne : pl.block ≠ g) (hb : w.heap[g]? = some (.cells (tb 0 0 (tl 0)) 210 (0, 0))) :
    Calls Tryz.prog 124 #[.pointer (some ⟨g, 0, none⟩), .func (.func 125) #[] #[.pointer (some pl)]] w fun e w' => e = .returned (.tuple #[]) ∧ w'.heap[g]? = some (.cells (tb 1 0 (tl 256)) 210 (0, 0)) ∧ w.grownBy w' (some g) := by
  have h0 : w.cell? ⟨g, 0, none⟩ = some (.int .u32 0) := by rw [blk_cell hb, tb_at0]
  have hl := run_call_load (P := Tryz.prog) Tryz.func128 (by kernel_rfl) (by kernel_rfl) (by kernel_rfl) .u32 (by kernel_rfl) h0
  have hnot : ∀ (x : Bool) (w : World), (Op.unary .not (.bool x)).run Tryz.prog w = .ok (.bool (!x)) w := fun _ _ => rfl
  have HB := Lib.hid hb; have HP := Lib.hid hp
  clear hb hp
  go_enter Tryz.func124, Tryz.ntmps124
  go_wp2_with (first | (go_at_call 127; refine (slow_calls g pl _ HP.out hne HB.out).mono ?_; rintro e w' ⟨rfl, hb2, hg2⟩) | (go_at_call 126; go_in))
  go_end0
  exact ⟨rfl, hb2, hg2⟩

theorem do_done (a : Addr) (fv : Value) (w : World) (h0 : w.cell? a = some (.int .u32 1)) :
    Calls Tryz.prog 124 #[.pointer (some a), fv] w fun e w' => e = .returned (.tuple #[]) ∧ w' = w := by
  have hl := run_call_load (P := Tryz.prog) Tryz.func128 (by kernel_rfl) (by kernel_rfl) (by kernel_rfl) .u32 (by kernel_rfl) h0
  have hnot : ∀ (x : Bool) (w : World), (Op.unary .not (.bool x)).run Tryz.prog w = .ok (.bool (!x)) w := fun _ _ => rfl
  go_enter Tryz.func124, Tryz.ntmps124
  go_wp2
  go_end0
  exact ⟨rfl, rfl⟩

/-- The table at g: not yet filled, or filled. -/
def Tb (w : World) (g : Nat) : Prop := w.heap[g]? = some (.cells (tb 0 0 (tl 0)) 210 (0, 0)) ∨ w.heap[g]? = some (.cells (tb 1 0 (tl 256)) 210 (0, 0))
theorem Tb.lt {w : World} {g : Nat} (h : Tb w g) : g < w.heap.size := by rcases h with h | h <;> exact (Array.getElem?_eq_some_iff.1 h).1
theorem Tb.move {w w' : World} {g : Nat} (h : Tb w g) (hm : w'.heap[g]? = w.heap[g]?) : Tb w' g := by
  rcases h with h | h
  · exact .inl (hm.trans h)
  · exact .inr (hm.trans h)

set_option maxRecDepth 100000 in
set_option maxHeartbeats 1600000 in
theorem at_calls (g : Nat) (c : Nat) (w : World) (hc : c < 256) (hb : Tb w g) :
    Calls Tryz.prog 122 #[.pointer (some ⟨g, 0, none⟩), .int .u8 c] w fun e w' => e = .returned (.int .u32 (it8 8 c)) ∧ Tb w' g ∧ w.grownBy w' (some g) := by
  have hmf : ∀ (fn : Fn) (first cap : Array Value) (w : World), (Instr.makeFunc fn first cap).run Tryz.prog w = .ok (.func fn first cap) w := fun _ _ _ _ => rfl
  have hlt := hb.lt
  have q0 : (0 : Int) ≤ (c : Int) := by omega
  have q1 : (c : Int) < 256 := by omega
  have p0 : (w.alloc (.cells #[.pointer (some ⟨g, 0, none⟩)] 198)).cell? ⟨w.heap.size, 0, none⟩ = some (.pointer (some ⟨g, 0, none⟩)) := by simp
  have ga := World.grownBy_alloc w (.cells #[.pointer (some ⟨g, 0, none⟩)] 198) (some g)
  have hne : w.heap.size ≠ g := by omega
  have fin : ∀ w2 : World, (w.alloc (.cells #[.pointer (some ⟨g, 0, none⟩)] 198)).grownBy w2 (some g) → w2.cell? ⟨w.heap.size, 0, none⟩ = some (.pointer (some ⟨g, 0, none⟩)) := fun w2 hg2 => (World.cell?_of_block (w := w.alloc (.cells #[.pointer (some ⟨g, 0, none⟩)] 198)) (hg2.block w.heap.size (by simp) (fun e => hne (by injection e)))).trans p0
  have HP := Lib.hid p0; have HG := Lib.hid ga; have HF := Lib.hid fin
  clear p0 ga fin
  rcases hb with hb | hb
  · have hb1 : (w.alloc (.cells #[.pointer (some ⟨g, 0, none⟩)] 198)).heap[g]? = _ := (heap_alloc_old w _ hlt).trans hb
    have HB := Lib.hid hb1
    clear hb hb1
    go_enter Tryz.func122, Tryz.ntmps122
    go_wp2_with (go_at_call 124; refine (do_first g ⟨w.heap.size, 0, none⟩ _ HP.out hne HB.out).mono ?_; rintro e w2 ⟨rfl, hb2, hg2⟩; have B2 := Lib.hid hb2; have G2 := Lib.hid hg2; have k1 := HF.out _ hg2; have k2 : w2.cell? ⟨g, 3 + c, none⟩ = some (.int .u32 (it8 8 c)) := (by rw [blk_cell hb2, tb_at3, tl_at 256 c hc, if_pos hc]); clear hb2 hg2)
    go_ret
    exact ⟨rfl, .inr B2.out, HG.out.trans G2.out⟩
  · have hb1 : (w.alloc (.cells #[.pointer (some ⟨g, 0, none⟩)] 198)).heap[g]? = _ := (heap_alloc_old w _ hlt).trans hb
    have h0 : (w.alloc (.cells #[.pointer (some ⟨g, 0, none⟩)] 198)).cell? ⟨g, 0, none⟩ = some (.int .u32 1) := by rw [blk_cell hb1, tb_at0]
    have k2 : (w.alloc (.cells #[.pointer (some ⟨g, 0, none⟩)] 198)).cell? ⟨g, 3 + c, none⟩ = some (.int .u32 (it8 8 c)) := (by rw [blk_cell hb1, tb_at3, tl_at 256 c hc, if_pos hc])
    have HB := Lib.hid hb1
    have k1 := HP.out
    clear hb hb1
    go_enter Tryz.func122, Tryz.ntmps122
    go_wp2_with (go_at_call 124; refine (do_done ⟨g, 0, none⟩ _ _ h0).mono ?_; rintro e w2 ⟨rfl, rfl⟩)
    go_ret
    exact ⟨rfl, .inr HB.out, HG.out⟩
end Go.Proofs.YtiinelmednbpmaaGreat.Crc
/- The walk of crc.Sum. -/
namespace Go.Proofs.YtiinelmednbpmaaGreat.Crc
open Go.RowKit Go.Proofs.YtiinelmednbpmaaGreatW.PrintWords Go.Proofs.YtiinelmednbpmaaGreat.Cut
/-- Are these bytes? -/
def bytesB (l : List Int) : Bool := l.all fun x => decide (0 ≤ x ∧ x ≤ 255)
theorem bytesB_iff {l : List Int} : bytesB l = true ↔ ∀ x ∈ l, 0 ≤ x ∧ x ≤ 255 := by
  unfold bytesB
  rw [List.all_eq_true]
  exact forall_congr' fun x => forall_congr' fun _ => decide_eq_true_iff
theorem at_byte {k : IntKind} {w : World} {A : Option Addr} {n : Nat} {l : List Int} (h : (Kd.int k).C w A n l) (i : Nat) (hi : i < n) : ∃ ad x, A = some ad ∧ l[i]? = some x ∧ x ∈ l ∧ w.cell? (ad.add i) = some (.int k x) := by
  obtain ⟨hl, _, h⟩ := h
  obtain ⟨ad, hA, hc⟩ := h (by omega)
  have hil : i < l.length := by omega
  obtain ⟨cs, _, hcs, hat⟩ := hc i (l[i]) (List.getElem?_eq_getElem hil)
  obtain rfl : cs = [.int k (l[i])] := hcs
  refine ⟨ad, l[i], hA, List.getElem?_eq_getElem hil, List.getElem_mem hil, ?_⟩
  have := hat 0 _ rfl
  have e1 : (Kd.int k).sz = 1 := rfl
  rwa [e1, Nat.mul_one, Nat.add_zero] at this
/-- The sum's state behind bytes. -/
def sumN (u x : Int) : Int := bits .xor .u32 (u / 256) (it8 8 (bits .xor .u8 (u % 256) x))
def sumS (l : List Int) : Int := l.foldl sumN 4294967295
def sumOf (l : List Int) : Int := bits .xor .u32 IntKind.u32.max (sumS l)
theorem sumS_snoc (l : List Int) (x : Int) : sumS (l ++ [x]) = sumN (sumS l) x := by unfold sumS; rw [List.foldl_append]; rfl
theorem take_snoc {l : List Int} {k : Nat} {x : Int} (h : l[k]? = some x) : l.take (k + 1) = l.take k ++ [x] := by
  obtain ⟨hk, rfl⟩ := List.getElem?_eq_some_iff.1 h
  exact List.take_succ_eq_append_getElem hk
theorem xor8_nat (u x : Int) (x0 : 0 ≤ x) (x1 : x ≤ 255) : ∃ m : Nat, m < 256 ∧ bits .xor .u8 (u % 256) x = (m : Int) :=
  ⟨_, Nat.xor_lt_two_pow (n := 8) (by omega) (by omega), u8_xor (u % 256) x (by omega) (by omega) x0 (by omega)⟩
theorem build_tb (w : World) : (zeroValue 210).run Tryz.prog w = .ok (.agg (tb 0 0 (tl 0))) w := by kernel_rfl
theorem Tb.new (w : World) : Tb (w.alloc (.cells (tb 0 0 (tl 0)) 210)) w.heap.size := .inl (heap_alloc_new w _)
set_option maxRecDepth 100000 in
set_option maxHeartbeats 1600000 in
theorem sum_calls (A : Option Addr) (n c : Nat) (l : List Int) (w : World) (hl : l.length = n) (hn : n ≤ 140737488351232) (hC : (Kd.int .u8).C w A n l) (hby : ∀ x ∈ l, 0 ≤ x ∧ x ≤ 255) :
    Calls Tryz.prog 115 #[.slice A n c] w fun e w' => e = .returned (.int .u32 (sumOf l)) ∧ Below w.heap.size w w' := by
  have HC := Lib.hid hC; have HBy := Lib.hid hby; have HL := Lib.hid hl
  have hbd := build_tb
  clear hC hby hl
  go_enter Tryz.func115, Tryz.ntmps115
  go_wp2
  have HT := Lib.hid (Tb.new w)
  have HB := Lib.hid ((Below.refl w.heap.size w).alloc (Nat.le_refl _) (.cells (tb 0 0 (tl 0)) 210))
  go_loopw [4, 11] (fun x i wr => ∃ k : Nat, k ≤ n ∧ i = .int .i64 k ∧ x = .int .u32 (sumS (l.take k)) ∧ Tb wr w.heap.size ∧ Below w.heap.size w wr) (fun _ i _ => n - (intOf i).toNat)
  case atStart => exact ⟨0, Nat.zero_le _, rfl, rfl, HT.out, HB.out⟩
  case round =>
    obtain ⟨k, hk, rfl, rfl, ht, hb⟩ := hrel
    have HT := Lib.hid ht; have HB := Lib.hid hb
    clear ht hb
    by_cases hlt : k < n
    · obtain ⟨ad, x, hA, hx, hxm, hcell⟩ := at_byte HC.out k hlt
      subst hA
      have hcw := pw_cell_below HB.out hcell
      obtain ⟨x0, x1⟩ := HBy.out x hxm
      have HX := Lib.hid hx
      clear hcell hx hxm
      obtain ⟨u, hu⟩ : ∃ u, sumS (l.take k) = u := ⟨_, rfl⟩
      rw [hu]
      have hki : ((k : Nat) : Int) < (n : Int) := by omega
      obtain ⟨m, hm, hmx⟩ := xor8_nat u x x0 x1
      have hs : sumS (l.take (k + 1)) = bits .xor .u32 (u / 256) (it8 8 m) := by rw [take_snoc HX.out, sumS_snoc, hu, sumN, hmx]
      have HS := Lib.hid hs; have HM := Lib.hid hmx
      clear hs hmx hu
      go_wp2_with fail
      rw [HM.out]
      refine (at_calls w.heap.size m _ hm HT.out).mono ?_
      rintro e w2 ⟨rfl, ht2, hg2⟩
      have HT2 := Lib.hid ht2
      have HB2 := Lib.hid (HB.out.grown hg2 HB.out.size (fun j hj => by injection hj with hj; omega))
      clear ht2 hg2
      go_wp2_with fail
      go_roundw
      case rel => exact ⟨k + 1, by omega, by go_num, by rw [HS.out], HT2.out, HB2.out⟩
      case measure => simp [intOf]; omega
    · obtain rfl : k = n := by omega
      go_wp2
      go_ret
      refine ⟨?_, HB.out⟩
      show Ending.returned (.int .u32 (bits .xor .u32 IntKind.u32.max (sumS (l.take k)))) = _
      rw [List.take_of_length_le (by have := HL.out; omega)]
      rfl
end Go.Proofs.YtiinelmednbpmaaGreat.Crc
/- The walks of pack's reader. -/
namespace Go.Proofs.YtiinelmednbpmaaGreat.Pack
open Go.RowKit Go.Proofs.YtiinelmednbpmaaGreatW.PrintWords Go.Proofs.YtiinelmednbpmaaGreat.Cut
/-- The reader at g: what is left of its bytes. -/
structure Rdr (w : World) (g : Nat) (A : Option Addr) (c : Nat) (l : List Int) : Prop where
  blk : w.heap[g]? = some (.cells #[.slice A l.length c] 171 (0, 0))
  cap : l.length ≤ c
  rd : (Kd.int .u8).C w A l.length l
theorem blk_add (a : Addr) (i : Nat) : (a.add i).block = a.block := by unfold Addr.add; split <;> rfl
theorem C_block {k : IntKind} {w w' : World} {A : Option Addr} {xs : List Int} (h : (Kd.int k).C w A xs.length xs) (hb : ∀ a, A = some a → 0 < xs.length → w'.heap[a.block]? = w.heap[a.block]?) : (Kd.int k).C w' A xs.length xs := by
  obtain ⟨h1, h2, h3⟩ := h
  refine ⟨h1, h2, fun h0 => ?_⟩
  obtain ⟨a, ha, hc⟩ := h3 h0
  refine ⟨a, ha, fun j p hj => ?_⟩
  obtain ⟨cs, hk, hcs, hat⟩ := hc j p hj
  refine ⟨cs, hk, hcs, fun i u hu => ?_⟩
  rw [← hat i u hu]
  exact World.cell?_of_block (w := w) (by rw [blk_add]; exact hb a ha h0)
theorem at_byte {k : IntKind} {w : World} {A : Option Addr} {n : Nat} {l : List Int} (h : (Kd.int k).C w A n l) (i : Nat) (hi : i < n) : ∃ ad x, A = some ad ∧ l[i]? = some x ∧ x ∈ l ∧ w.cell? (ad.add i) = some (.int k x) := by
  obtain ⟨hl, _, h⟩ := h
  obtain ⟨ad, hA, hc⟩ := h (by omega)
  have hil : i < l.length := by omega
  obtain ⟨cs, _, hcs, hat⟩ := hc i (l[i]) (List.getElem?_eq_getElem hil)
  obtain rfl : cs = [.int k (l[i])] := hcs
  refine ⟨ad, l[i], hA, List.getElem?_eq_getElem hil, List.getElem_mem hil, ?_⟩
  have := hat 0 _ rfl
  have e1 : (Kd.int k).sz = 1 := rfl
  rwa [e1, Nat.mul_one, Nat.add_zero] at this
theorem Rdr.far {w : World} {g : Nat} {A : Option Addr} {c : Nat} {l : List Int} (h : Rdr w g A c l) {a : Addr} {xs : List Int} (hC : (Kd.int .u8).C w (some a) xs.length xs) (h0 : 0 < xs.length) : a.block ≠ g := by
  intro e
  obtain ⟨ad, x, hA, _, _, hc⟩ := at_byte hC 0 h0
  injection hA with hA; subst hA
  have hb := h.blk
  rw [← e] at hb
  have e0 : a.add 0 = a := by unfold Addr.add; simp
  rw [e0] at hc
  cases a with
  | mk b o s =>
    cases s with
    | none =>
      rw [blk_cell hb] at hc
      match o, hc with
      | 0, hc => simp at hc
      | o + 1, hc => simp at hc
    | some s =>
      simp [World.cell?, hb] at hc
theorem left_calls {w : World} {g : Nat} {A : Option Addr} {c : Nat} {l : List Int} (h : Rdr w g A c l) :
    Calls Tryz.prog 80 #[.pointer (some ⟨g, 0, none⟩)] w fun e w' => e = .returned (.int .i64 l.length) ∧ w = w' := by
  have c0 : w.cell? ⟨g, 0, none⟩ = some (.slice A l.length c) := blk_cell h.blk 0
  clear h
  go_enter Tryz.func80, Tryz.ntmps80
  go_wp2
  go_ret
  exact ⟨rfl, rfl⟩
/-- A number, read from place i on; x: what was read of it. What it is, the error, how many bytes it took. -/
def uintGo : Nat → List Int → Nat → Int → Int × Int × Nat
  | 0, l, i, _ => if i = l.length then (0, 5, 0) else (0, 5, 0)
  | k + 1, l, i, x =>
    if i = l.length then (0, 4, 0)
    else if i = 9 ∧ 1 < l.getD i 0 % 128 then (0, 5, 0)
    else if 128 ≤ l.getD i 0 then uintGo k l (i + 1) (x + l.getD i 0 % 128 * 2 ^ (7 * i))
    else if l.getD i 0 = 0 ∧ 0 < i then (0, 5, 0)
    else (x + l.getD i 0 % 128 * 2 ^ (7 * i), 0, i + 1)
def uintR (l : List Int) : Int × Int × Nat := uintGo 10 l 0 0
/-- A scope with one label, to which the run jumps back: the rest behind the label is walked once. -/
theorem scope_once {P : Program} {Q : Exit → Act → World → Prop} {a : Act} {w : World} {c rest : Code} (l : Nat) (J : Act → World → Prop) (μ : Act → World → Nat) (hf : findLabel c l = some (.seq .skip rest))
    (pass : ∀ a w, J a w → rest.wp P (Exit.jump l (fun a' w' => J a' w' ∧ μ a' w' < μ a w) Q) a w)
    (first : (∀ a w, J a w → rest.wp P (Exit.jump l J Q) a w) → c.wp P (Exit.jump l J Q) a w) : (Code.scope c).wp P Q a w := by
  refine wp_scope_jumps l J μ hf (first fun a w h => wp_mono (pass a w h) ?_) (fun a w h => wp_seq (wp_skip (pass a w h)))
  intro e a1 w1 hq
  cases e
  case goto l' => exact ⟨hq.1, hq.2.1⟩
  all_goals exact hq
/-- The frame at the label. -/
def UJ (g : Nat) (l : List Int) (w : World) (a' : Act) (w' : World) : Prop := ∃ (i : Nat) (x : Int), i ≤ 10 ∧ i ≤ l.length ∧ 0 ≤ x ∧ x < 2 ^ (7 * i) ∧ uintGo (10 - i) l i x = uintR l ∧ w' = w ∧ ∃ u6 u7 u8 u9 u10 u11 u12 u13 u14 u15 u16 u17 u18 u19 u20 u21 u22 u23 u24 u25 u26 u27 u28 u29 u30 u31 u32 u33 u34 u35 u36 u37 u38 u39 u40 u41 u42 u43 u44 u45 u46 u47 u48 u49 u50 u51 u52 u53 u54 u55 u56 u57 u58 u59 : Value, a' = { tmps := #[.pointer (some ⟨g, 0, none⟩), undef, .int .u64 0, .int .i64 0, .int .u64 x, .int .i64 i, u6, u7, u8, u9, u10, u11, u12, u13, u14, u15, u16, u17, u18, u19, u20, u21, u22, u23, u24, u25, u26, u27, u28, u29, u30, u31, u32, u33, u34, u35, u36, u37, u38, u39, u40, u41, u42, u43, u44, u45, u46, u47, u48, u49, u50, u51, u52, u53, u54, u55, u56, u57, u58, u59], defers := [] }
def Umu (a' : Act) (_ : World) : Nat := 10 - (intOf (a'.tmps.getD 5 undef)).toNat
theorem andNot128 (c : Int) (h0 : 0 ≤ c) (h1 : c ≤ 255) : ((c.toNat &&& (255 - (128 : Int).toNat) : Nat) : Int) = c % 128 := by
  obtain ⟨n, rfl⟩ := Int.eq_ofNat_of_zero_le h0
  rw [Int.toNat_natCast]
  show ((n &&& (2 ^ 7 - 1) : Nat) : Int) = _
  rw [Nat.and_two_pow_sub_one_eq_mod]; rfl
theorem and128 (c : Int) (h0 : 0 ≤ c) (h1 : c ≤ 255) : bits .and .u8 c 128 = if 128 ≤ c then 128 else 0 := by
  obtain ⟨n, rfl⟩ := Int.eq_ofNat_of_zero_le h0
  rw [u8_and n 128 h0 (by omega) (by omega) (by omega), Int.toNat_natCast]
  have h : ∀ m : Nat, m < 256 → ((m &&& 128 : Nat) : Int) = if (128 : Int) ≤ (m : Int) then 128 else 0 := by decide +kernel
  exact h n (by omega)
theorem or_uint (x p : Int) (i : Nat) (x0 : 0 ≤ x) (x1 : x < 2 ^ (7 * i)) (p0 : 0 ≤ p) (p1 : p ≤ 127) (hi : i ≤ 9) (h9 : ¬ (i = 9 ∧ 1 < p)) :
    bits .or .u64 x (IntKind.u64.wrap (p * 2 ^ (7 * i))) = x + p * 2 ^ (7 * i) ∧ 0 ≤ x + p * 2 ^ (7 * i) ∧ x + p * 2 ^ (7 * i) < 2 ^ (7 * (i + 1)) := by
  obtain ⟨n, rfl⟩ := Int.eq_ofNat_of_zero_le x0
  obtain ⟨q, rfl⟩ := Int.eq_ofNat_of_zero_le p0
  have hpow : ((2 : Int) ^ (7 * i)) = ((2 ^ (7 * i) : Nat) : Int) := by rw [Int.natCast_pow]; rfl
  have hpow' : ((2 : Int) ^ (7 * (i + 1))) = ((2 ^ (7 * (i + 1)) : Nat) : Int) := by rw [Int.natCast_pow]; rfl
  have hs : 2 ^ (7 * (i + 1)) = 128 * 2 ^ (7 * i) := by rw [show 7 * (i + 1) = 7 + 7 * i by omega, Nat.pow_add]
  rw [hpow] at x1
  rw [hpow, hpow', hs]
  have hn : n < 2 ^ (7 * i) := by omega
  have hq : q * 2 ^ (7 * i) ≤ 127 * 2 ^ (7 * i) := Nat.mul_le_mul_right _ (by omega)
  have hlt : q * 2 ^ (7 * i) ≤ 9223372036854775808 := by
    by_cases e : i = 9
    · subst e
      have : q ≤ 1 := by omega
      have := Nat.mul_le_mul_right (2 ^ 63) this
      omega
    · have : 2 ^ (7 * i) ≤ 2 ^ 56 := Nat.pow_le_pow_right (by omega) (by omega)
      omega
  have hnb : n < 9223372036854775808 := by
    have : 2 ^ (7 * i) ≤ 2 ^ 63 := Nat.pow_le_pow_right (by omega) (by omega)
    omega
  have ew : ((q : Int) * ((2 ^ (7 * i) : Nat) : Int)) = ((q * 2 ^ (7 * i) : Nat) : Int) := by rw [Int.natCast_mul]
  rw [ew, IntKind.wrap_u64]
  have em : ((q * 2 ^ (7 * i) : Nat) : Int) % 18446744073709551616 = ((q * 2 ^ (7 * i) : Nat) : Int) := by omega
  rw [em, u64_or_nat n (q * 2 ^ (7 * i)) (by omega) (by omega)]
  have ho : n ||| q * 2 ^ (7 * i) = n + q * 2 ^ (7 * i) := by
    rw [Nat.or_comm, ← Nat.shiftLeft_eq, ← Nat.shiftLeft_add_eq_or_of_lt hn, Nat.shiftLeft_eq, Nat.add_comm]
  rw [ho]
  refine ⟨by omega, by omega, by omega⟩
theorem info5 : (Tryz.prog.info? 5).map (fun i => (i.zero, i.size, i.bytes)) = some (some (.int .u8 0), 1, 1) := by kernel_rfl
set_option maxRecDepth 1000000 in
set_option maxHeartbeats 3200000 in
theorem uint_calls {w : World} {g : Nat} {A : Option Addr} {c : Nat} {l : List Int} (h : Rdr w g A c l) (hby : ∀ x ∈ l, 0 ≤ x ∧ x ≤ 255) :
    Calls Tryz.prog 79 #[.pointer (some ⟨g, 0, none⟩)] w fun e w' => e = .returned (.tuple #[.int .u64 (uintR l).1, .int .i64 (uintR l).2.1]) ∧ (∃ A' c', Rdr w' g A' c' (l.drop (uintR l).2.2)) ∧ w.grownBy w' (some g) := by
  have c0 : w.cell? ⟨g, 0, none⟩ = some (.slice A l.length c) := blk_cell h.blk 0
  have f0 : w.frozen? ⟨g, 0, none⟩ = false := blk_frozen h.blk 0
  have HR := Lib.hid h; have HBy := Lib.hid hby
  clear h hby
  go_enter Tryz.func79, Tryz.ntmps79
  go_wp2
  refine scope_once 0 (UJ g l w) Umu rfl ?_ ?_
  · intro a1 w1 hJ
    obtain ⟨i, x, hi10, hil, hx0, hx1, hgo, rfl, hJ⟩ := hJ
    obtain ⟨u6, hJ⟩ := hJ; obtain ⟨u7, hJ⟩ := hJ; obtain ⟨u8, hJ⟩ := hJ; obtain ⟨u9, hJ⟩ := hJ; obtain ⟨u10, hJ⟩ := hJ; obtain ⟨u11, hJ⟩ := hJ; obtain ⟨u12, hJ⟩ := hJ; obtain ⟨u13, hJ⟩ := hJ; obtain ⟨u14, hJ⟩ := hJ; obtain ⟨u15, hJ⟩ := hJ; obtain ⟨u16, hJ⟩ := hJ; obtain ⟨u17, hJ⟩ := hJ; obtain ⟨u18, hJ⟩ := hJ; obtain ⟨u19, hJ⟩ := hJ; obtain ⟨u20, hJ⟩ := hJ; obtain ⟨u21, hJ⟩ := hJ; obtain ⟨u22, hJ⟩ := hJ; obtain ⟨u23, hJ⟩ := hJ; obtain ⟨u24, hJ⟩ := hJ; obtain ⟨u25, hJ⟩ := hJ; obtain ⟨u26, hJ⟩ := hJ; obtain ⟨u27, hJ⟩ := hJ; obtain ⟨u28, hJ⟩ := hJ; obtain ⟨u29, hJ⟩ := hJ; obtain ⟨u30, hJ⟩ := hJ; obtain ⟨u31, hJ⟩ := hJ; obtain ⟨u32, hJ⟩ := hJ; obtain ⟨u33, hJ⟩ := hJ; obtain ⟨u34, hJ⟩ := hJ; obtain ⟨u35, hJ⟩ := hJ; obtain ⟨u36, hJ⟩ := hJ; obtain ⟨u37, hJ⟩ := hJ; obtain ⟨u38, hJ⟩ := hJ; obtain ⟨u39, hJ⟩ := hJ; obtain ⟨u40, hJ⟩ := hJ; obtain ⟨u41, hJ⟩ := hJ; obtain ⟨u42, hJ⟩ := hJ; obtain ⟨u43, hJ⟩ := hJ; obtain ⟨u44, hJ⟩ := hJ; obtain ⟨u45, hJ⟩ := hJ; obtain ⟨u46, hJ⟩ := hJ; obtain ⟨u47, hJ⟩ := hJ; obtain ⟨u48, hJ⟩ := hJ; obtain ⟨u49, hJ⟩ := hJ; obtain ⟨u50, hJ⟩ := hJ; obtain ⟨u51, hJ⟩ := hJ; obtain ⟨u52, hJ⟩ := hJ; obtain ⟨u53, hJ⟩ := hJ; obtain ⟨u54, hJ⟩ := hJ; obtain ⟨u55, hJ⟩ := hJ; obtain ⟨u56, hJ⟩ := hJ; obtain ⟨u57, hJ⟩ := hJ; obtain ⟨u58, hJ⟩ := hJ; obtain ⟨u59, hJ⟩ := hJ
    subst hJ
    have HX1 := Lib.hid hx1; have HGo := Lib.hid hgo
    clear hx1 hgo
    by_cases hend : i = l.length
    · have b1 : ((i : Int) == (l.length : Int)) = true := beq_iff_eq.2 (by omega)
      by_cases h10 : i = 10
      · have b2 : ((i : Int) == 10) = true := beq_iff_eq.2 (by omega)
        have HRes : Hid (uintR l = (0, 5, 0)) := Lib.hid (by rw [← HGo.out, h10]; simp [uintGo])
        clear hend h10
        go_wp2_with (go_at_call 80; refine (left_calls HR.out).mono ?_; rintro e w' ⟨rfl, rfl⟩)
        simp only [Exit.jump]
        go_ret2
        exact ⟨by rw [HRes.out]; rfl, ⟨A, c, by rw [HRes.out]; exact HR.out⟩, World.grownBy.refl _ _⟩
      · have b2 : ((i : Int) == 10) = false := beq_eq_false_iff_ne.2 (by omega)
        have HRes : Hid (uintR l = (0, 4, 0)) := Lib.hid (by
          obtain ⟨k, hk⟩ : ∃ k, 10 - i = k + 1 := ⟨9 - i, by omega⟩
          rw [← HGo.out, hk, uintGo, if_pos hend])
        clear hend h10
        go_wp2_with (go_at_call 80; refine (left_calls HR.out).mono ?_; rintro e w' ⟨rfl, rfl⟩)
        simp only [Exit.jump]
        go_ret2
        exact ⟨by rw [HRes.out]; rfl, ⟨A, c, by rw [HRes.out]; exact HR.out⟩, World.grownBy.refl _ _⟩
    · have hlt : i < l.length := by omega
      have b1 : ((i : Int) == (l.length : Int)) = false := beq_eq_false_iff_ne.2 (by omega)
      have hlti : (i : Int) < (l.length : Int) := by omega
      by_cases h10 : i = 10
      · have b2 : ((i : Int) == 10) = true := beq_iff_eq.2 (by omega)
        have HRes : Hid (uintR l = (0, 5, 0)) := Lib.hid (by rw [← HGo.out, h10]; simp [uintGo])
        clear hend h10
        go_wp2_with (go_at_call 80; refine (left_calls HR.out).mono ?_; rintro e w' ⟨rfl, rfl⟩)
        simp only [Exit.jump]
        go_ret2
        exact ⟨by rw [HRes.out]; rfl, ⟨A, c, by rw [HRes.out]; exact HR.out⟩, World.grownBy.refl _ _⟩
      · have b2 : ((i : Int) == 10) = false := beq_eq_false_iff_ne.2 (by omega)
        obtain ⟨ad, c1, hA, hc1, hcm, hcell⟩ := at_byte HR.out.rd i hlt
        subst hA
        obtain ⟨y0, y1⟩ := HBy.out c1 hcm
        have hgd : l.getD i 0 = c1 := by rw [List.getD_eq_getElem?_getD, hc1]; rfl
        obtain ⟨k, hk⟩ : ∃ k, 10 - i = k + 1 := ⟨9 - i, by omega⟩
        have hk' : k = 10 - (i + 1) := by omega
        have hgo := HGo.out
        rw [hk, uintGo, if_neg hend, hgd] at hgo
        obtain ⟨p, hp⟩ : ∃ p : Int, p = c1 % 128 := ⟨_, rfl⟩
        have hp0 : 0 ≤ p := by omega
        have hp1 : p ≤ 127 := by omega
        rw [← hp, hk'] at hgo
        have e1 : bits .andNot .u8 c1 128 = p := by
          rw [u8_andNot c1 128 y0 (by omega) (by omega) (by omega), hp]
          exact andNot128 c1 y0 y1
        clear hp hk hk' hgd hc1 hcm HGo
        by_cases hover : i = 9 ∧ 1 < p
        · rw [if_pos hover] at hgo
          have HRes := Lib.hid hgo
          obtain ⟨h9, hp9⟩ := hover
          have b3 : ((i : Int) == 9) = true := beq_iff_eq.2 (by omega)
          clear hgo h9 hend h10
          go_wp2_with (go_at_call 80; refine (left_calls HR.out).mono ?_; rintro e w' ⟨rfl, rfl⟩)
          simp only [Exit.jump]
          go_ret2
          exact ⟨by rw [← HRes.out]; rfl, ⟨_, c, by rw [← HRes.out]; exact HR.out⟩, World.grownBy.refl _ _⟩
        · rw [if_neg hover] at hgo
          have hor := or_uint x p i hx0 HX1.out hp0 hp1 (by omega) (by omega)
          have HOr := Lib.hid hor
          obtain ⟨n, hn⟩ : ∃ n, n = x + p * 2 ^ (7 * i) := ⟨_, rfl⟩
          rw [← hn] at hgo HOr
          clear hn hor
          have h7 : (7 : Int) * (i : Int) ≤ 63 := by omega
          have hor1 := HOr.out.1
          have tests : (i = 9 ∧ p ≤ 1) ∨ i < 9 := by omega
          have HT := Lib.hid tests
          clear tests hover hend h10
          by_cases hbig : 128 ≤ c1
          · rw [if_pos hbig] at hgo
            have HGo := Lib.hid hgo
            have e2 : (bits .and .u8 c1 128 != 0) = true := by rw [and128 c1 y0 y1, if_pos hbig]; rfl
            clear hgo hbig
            rcases HT.out with ⟨h9, hp9⟩ | h9
            · have b3 : ((i : Int) == 9) = true := beq_iff_eq.2 (by omega)
              clear h9
              go_wp2_with (go_at_call 80; refine (left_calls HR.out).mono ?_; rintro e w' ⟨rfl, rfl⟩)
              go_step3
              refine ⟨rfl, ⟨i + 1, n, by omega, by omega, HOr.out.2.1, HOr.out.2.2, HGo.out, rfl, _, _, _, _, _, _, _, _, _, _, _, _, _, _, _, _, _, _, _, _, _, _, _, _, _, _, _, _, _, _, _, _, _, _, _, _, _, _, _, _, _, _, _, _, _, _, _, _, _, _, _, _, _, _, rfl⟩, ?_⟩
              simp [Umu, intOf]; omega
            · have b3 : ((i : Int) == 9) = false := beq_eq_false_iff_ne.2 (by omega)
              go_wp2_with (go_at_call 80; refine (left_calls HR.out).mono ?_; rintro e w' ⟨rfl, rfl⟩)
              go_step3
              refine ⟨rfl, ⟨i + 1, n, by omega, by omega, HOr.out.2.1, HOr.out.2.2, HGo.out, rfl, _, _, _, _, _, _, _, _, _, _, _, _, _, _, _, _, _, _, _, _, _, _, _, _, _, _, _, _, _, _, _, _, _, _, _, _, _, _, _, _, _, _, _, _, _, _, _, _, _, _, _, _, _, _, rfl⟩, ?_⟩
              simp [Umu, intOf]; omega
          · rw [if_neg hbig] at hgo
            have e2 : (bits .and .u8 c1 128 != 0) = false := by rw [and128 c1 y0 y1, if_neg hbig]; rfl
            clear hbig
            by_cases hz : c1 = 0 ∧ 0 < i
            · rw [if_pos hz] at hgo
              have HRes := Lib.hid hgo
              obtain ⟨hz0, hz1⟩ := hz
              have b4 : (c1 == 0) = true := beq_iff_eq.2 hz0
              have b5 : (1 : Int) < (i : Int) + 1 := by omega
              clear hgo hz0
              rcases HT.out with ⟨h9, hp9⟩ | h9
              · have b3 : ((i : Int) == 9) = true := beq_iff_eq.2 (by omega)
                clear h9
                go_wp2_with (go_at_call 80; refine (left_calls HR.out).mono ?_; rintro e w' ⟨rfl, rfl⟩)
                simp only [Exit.jump]
                go_ret2
                exact ⟨by rw [← HRes.out]; rfl, ⟨_, c, by rw [← HRes.out]; exact HR.out⟩, World.grownBy.refl _ _⟩
              · have b3 : ((i : Int) == 9) = false := beq_eq_false_iff_ne.2 (by omega)
                go_wp2_with (go_at_call 80; refine (left_calls HR.out).mono ?_; rintro e w' ⟨rfl, rfl⟩)
                simp only [Exit.jump]
                go_ret2
                exact ⟨by rw [← HRes.out]; rfl, ⟨_, c, by rw [← HRes.out]; exact HR.out⟩, World.grownBy.refl _ _⟩
            · rw [if_neg hz] at hgo
              have HRes := Lib.hid hgo
              obtain ⟨A', R, hR, CR, hRc, hcut⟩ := tail_cut (P := Tryz.prog) (d := Kd.int .u8) 32 5 .i64 Tryz.underlying32 info5 rfl HR.out.rd HR.out.cap ((i : Int) + 1) (i + 1) (by omega) (by omega)
              have hfin : Rdr (w1.setCell ⟨g, 0, none⟩ (.slice A' R.length (c - (i + 1)))) g A' (c - (i + 1)) R := by
                refine ⟨heap_setCell_same w1 g 0 _ _ _ HR.out.blk, hRc, C_block CR fun a ha h0 => Below.heap_setCell w1 ⟨g, 0, none⟩ _ _ ?_⟩
                subst ha
                exact HR.out.far CR h0
              have hgs : w1.grownBy (w1.setCell ⟨g, 0, none⟩ (.slice A' R.length (c - (i + 1)))) (some g) := ⟨rfl, rfl, rfl, by simp, fun k _ hk => Below.heap_setCell w1 ⟨g, 0, none⟩ _ k (fun e => hk (by rw [e]))⟩
              have HFin := Lib.hid hfin; have HGs := Lib.hid hgs; have HRR := Lib.hid hR
              have htest : (c1 == 0) = false ∨ (c1 == 0) = true ∧ ¬ (1 : Int) < (i : Int) + 1 := by
                by_cases h0 : c1 = 0
                · exact .inr ⟨beq_iff_eq.2 h0, by omega⟩
                · exact .inl (beq_eq_false_iff_ne.2 h0)
              have HTest := Lib.hid htest
              clear hgo hz hfin hgs hR CR htest hRc
              rcases HT.out with ⟨h9, hp9⟩ | h9
              · have b3 : ((i : Int) == 9) = true := beq_iff_eq.2 (by omega)
                clear h9
                rcases HTest.out with b4 | ⟨b4, b5⟩
                all_goals
                  go_wp2_with (go_at_call 80; refine (left_calls HR.out).mono ?_; rintro e w' ⟨rfl, rfl⟩)
                  simp only [Exit.jump]
                  go_ret2
                  exact ⟨by rw [← HRes.out]; rfl, ⟨A', _, by rw [← HRes.out, ← HRR.out]; exact HFin.out⟩, HGs.out⟩
              · have b3 : ((i : Int) == 9) = false := beq_eq_false_iff_ne.2 (by omega)
                rcases HTest.out with b4 | ⟨b4, b5⟩
                all_goals
                  go_wp2_with (go_at_call 80; refine (left_calls HR.out).mono ?_; rintro e w' ⟨rfl, rfl⟩)
                  simp only [Exit.jump]
                  go_ret2
                  exact ⟨by rw [← HRes.out]; rfl, ⟨A', _, by rw [← HRes.out, ← HRR.out]; exact HFin.out⟩, HGs.out⟩
  · intro pass
    go_wp2
    go_step3
    rename_i K hK
    refine hK _ _ (pass _ _ ?_)
    exact ⟨0, 0, by omega, Nat.zero_le _, by omega, by omega, rfl, rfl, undef, undef, undef, undef, undef, undef, undef, undef, undef, undef, undef, undef, undef, undef, undef, undef, undef, undef, undef, undef, undef, undef, undef, undef, undef, undef, undef, undef, undef, undef, undef, undef, undef, undef, undef, undef, undef, undef, undef, undef, undef, undef, undef, undef, undef, undef, undef, undef, undef, undef, undef, undef, undef, undef, rfl⟩
end Go.Proofs.YtiinelmednbpmaaGreat.Pack
/- The walk of pack.From. -/
namespace Go.Proofs.YtiinelmednbpmaaGreat.Pack
open Go.RowKit Go.Proofs.YtiinelmednbpmaaGreatW.PrintWords Go.Proofs.YtiinelmednbpmaaGreat.Cut Go.Proofs.YtiinelmednbpmaaGreat.Row
theorem news_of {w : World} {A : Option Addr} {l : List Int} (hK : (Kd.int .u8).C w A l.length l) : 0 < (nums .u8 l).length → ∃ a, A = some a ∧ ∀ j u, (nums .u8 l)[j]? = some u → w.cell? (a.add j) = some u := fun h0 => by
  rw [nums_length] at h0
  obtain ⟨_, _, h⟩ := hK
  obtain ⟨a, ha, hc⟩ := h h0
  refine ⟨a, ha, fun j u hu => ?_⟩
  simp only [nums, List.getElem?_map, Option.map_eq_some_iff] at hu
  obtain ⟨p, hp, rfl⟩ := hu
  obtain ⟨cs, _, hcs, hat⟩ := hc j p hp
  obtain rfl : cs = [.int .u8 p] := hcs
  have := hat 0 _ rfl
  have e1 : (Kd.int .u8).sz = 1 := rfl
  rwa [e1, Nat.mul_one, Nat.add_zero] at this
/-- append(v, l...) of bytes: v a row of the call's own. -/
theorem append_u8 (w : World) (base : Nat) (v : Value) (xs : List Int) (hr : Row w base 5 v (nums .u8 xs)) (A : Option Addr) (c : Nat) (l : List Int) (hK : (Kd.int .u8).C w A l.length l) (hlim : xs.length + l.length ≤ 140737488355328) (hbase : base ≤ w.heap.size) :
    ∃ A' c' w', (Builtin.append_ #[32, 32] 32 #[v, .slice A l.length c]).run Tryz.prog w = .ok (.slice A' (xs.length + l.length) c') w' ∧ Row w' base 5 (.slice A' (xs.length + l.length) c') (nums .u8 (xs ++ l)) ∧ w.grownBy w' v.ownBlock ∧ (A' = none ∨ (Value.slice A' (xs.length + l.length) c').ownBlock = v.ownBlock ∨ ∃ b, (Value.slice A' (xs.length + l.length) c').ownBlock = some b ∧ w.heap.size ≤ b) := by
  obtain ⟨i5, hi5, hz5, hs5, hb5⟩ := info_parts info5
  obtain ⟨v', w', hrun, hrow, hgr, hat⟩ := run_append (P := Tryz.prog) w base 32 32 5 i5 (.int .u8 0) 1 Tryz.underlying32 hi5 hz5 hs5 hb5 rfl v (nums .u8 xs) hr A c (nums .u8 l) (news_of hK) (fun u hu => by
    simp only [nums, List.mem_map] at hu
    obtain ⟨x, _, rfl⟩ := hu; rfl) (by rw [nums_length, nums_length]; omega) (by rw [nums_length, nums_length]; omega) hbase
  rw [← nums_append] at hrow
  obtain ⟨A', c', hv, _, _⟩ := hrow.slice
  rw [nums_length, List.length_append] at hv
  subst hv
  rw [nums_length] at hrun
  exact ⟨A', c', w', hrun, hrow, hgr, .inr hat⟩
theorem empty_row (w : World) (base : Nat) (hb : base ≤ w.heap.size) : Row (w.alloc (.cells #[] 5)) base 5 (.slice (some ⟨w.heap.size, 0, none⟩) 0 0) (nums .u8 []) :=
  .inr ⟨w.heap.size, 0, #[], rfl, hb, heap_alloc_new w _, Nat.le_refl _, Nat.le_refl _, by simp, rfl⟩
theorem from_calls (A : Option Addr) (n c : Nat) (l : List Int) (w : World) (hl : l.length = n) (hn : n ≤ 140737488351232) (hC : (Kd.int .u8).C w A n l) :
    Calls Tryz.prog 78 #[.slice A n c] w fun e w' => ∃ g, e = .returned (.pointer (some ⟨g, 0, none⟩)) ∧ w.heap.size ≤ g ∧ (∃ A' c', Rdr w' g A' c' l) ∧ Below w.heap.size w w' := by
  subst hl
  obtain ⟨A1, c1, w1, hr1, R1, G1, at1⟩ := append_u8 (w.alloc (.cells #[] 5)) w.heap.size _ [] (empty_row w w.heap.size (Nat.le_refl _)) A c l (Kd.C_below hC ((Below.refl _ _).alloc (Nat.le_refl _) _)) (by simp; omega) (by simp)
  have hb1 : Below w.heap.size w w1 := ((Below.refl w.heap.size w).alloc (Nat.le_refl _) (.cells #[] 5)).grown G1 (by simp) (fun k hk => by
    have hk' : k = w.heap.size := by simpa [Value.ownBlock] using hk.symm
    omega)
  obtain ⟨A2, c2, he, hc2, hC2⟩ := R1.reads
  simp only [List.length_nil, Nat.zero_add, List.nil_append] at hr1 he hC2 hc2
  injection he with h1 _ h3
  subst h1; subst h3
  have hfin : Rdr (w1.alloc (.cells #[.slice A1 l.length c1] 171)) w1.heap.size A1 c1 l := ⟨heap_alloc_new w1 _, hc2, Kd.C_below hC2 ((Below.refl _ _).alloc (Nat.le_refl _) _)⟩
  have HB := Lib.hid (hb1.alloc hb1.size (.cells #[.slice A1 l.length c1] 171)); have HR := Lib.hid hr1; have HF := Lib.hid hfin; have HS := Lib.hid hb1.size
  clear R1 G1 at1 hb1 hC2 hfin hr1 hC
  go_enter Tryz.func78, Tryz.ntmps78
  go_wp2_with (at_builtin; refine wpList_append_run rfl _ _ 32 rfl _ _ _ rfl rfl HR.out ?_)
  go_ret
  exact ⟨_, rfl, HS.out, ⟨A1, c1, HF.out⟩, HB.out⟩
end Go.Proofs.YtiinelmednbpmaaGreat.Pack
/- '!=' of two arrays of four bytes (after the worked text Cov2Walks). -/
namespace Go.Proofs.YtiinelmednbpmaaGreat.Crc
open Go.RowKit
theorem eq_four (a b c d a' b' c' d' : Int) (W : World) : (Op.equalIn 10000 189 (.agg #[.int .u8 a, .int .u8 b, .int .u8 c, .int .u8 d]) (.agg #[.int .u8 a', .int .u8 b', .int .u8 c', .int .u8 d'])).run Tryz.prog W = .ok (a == a' && (b == b' && (c == c' && d == d'))) W := by
  have u3 := Tryz.underlying5
  have a3 := Tryz.isAgg5
  have z3 := Tryz.sizeOf5
  rw [show (10000 : Nat) = 9999 + 1 from rfl, Op.equalIn]
  simp only [Sem.run_bind, run_underlying Tryz.underlying189, Result.andThen_ok]
  simp only [Std.Legacy.Range.forIn_eq_forIn_range', Std.Legacy.Range.size, Nat.sub_zero, Nat.add_sub_cancel, Nat.div_one, List.range'_succ, List.range'_zero, List.forIn_cons, List.forIn_nil]
  go_simp
  by_cases h1 : a = a' <;> by_cases h2 : b = b' <;> by_cases h3 : c = c' <;> by_cases h4 : d = d' <;> simp [h1, h2, h3, h4]
end Go.Proofs.YtiinelmednbpmaaGreat.Crc
/- The walk of crc.Open. -/
namespace Go.Proofs.YtiinelmednbpmaaGreat.Crc
open Go.RowKit Go.Proofs.YtiinelmednbpmaaGreatW.PrintWords Go.Proofs.YtiinelmednbpmaaGreat.Cut Go.Proofs.YtiinelmednbpmaaGreat.Row Go.Proofs.YtiinelmednbpmaaGreat.Pack
def fourL (a : Int) : List Int := [a % 256, a / 256 % 256, a / 65536 % 256, a / 16777216]
/-- What crc.Open answers. -/
def openF (l : List Int) : List Int × Int × Int :=
  let r := uintR l
  if r.2.1 ≠ 0 then ([], 0, r.2.1) else if 4096 < r.1 then ([], 0, 2) else if ((l.length - r.2.2 : Nat) : Int) < r.1 + 4 then ([], 0, 4)
  else if (l.drop (r.2.2 + r.1.toNat)).take 4 ≠ fourL (sumOf ((l.drop r.2.2).take r.1.toNat)) then ([], 0, 5)
  else ((l.drop r.2.2).take r.1.toNat, ((r.2.2 + r.1.toNat + 4 : Nat) : Int), 0)
/-- A row of bytes that a call hands back. -/
abbrev RB (w' w : World) (v : Value) (l : List Int) : Prop := Kd.R (Kd.int .u8) 5 w' w.heap.size (fun _ => True) v l
theorem arrayAt_four (W : World) (A : Option Addr) (n c : Nat) (h : 4 ≤ n) : (Instr.arrayAt 189 (.slice A n c)).run Tryz.prog W = .ok (.pointer A) W := by
  have h4 : ¬ n < 4 := by omega
  simp [Instr.arrayAt, run_underlying Tryz.underlying189, h4]
theorem four_calls (a : Int) (w : World) (h0 : 0 ≤ a) (h1 : a < 4294967296) :
    Calls Tryz.prog 114 #[.int .u32 a] w fun e w' => e = .returned (.slice (some ⟨w.heap.size, 0, none⟩) 4 4) ∧ w'.heap[w.heap.size]? = some (.cells (nums .u8 (fourL a)).toArray 5 (0, 0)) ∧ Below w.heap.size w w' := by
  go_enter Tryz.func114, Tryz.ntmps114
  go_wp2
  go_ret
  exact ⟨rfl, heap_alloc_new w _, (Below.refl _ _).alloc (Nat.le_refl _) _⟩
theorem uintGo_spec : ∀ (k : Nat) (l : List Int) (i : Nat) (x : Int), i ≤ l.length → 0 ≤ x → (uintGo k l i x).2.2 ≤ l.length ∧ 0 ≤ (uintGo k l i x).1 ∧ ((uintGo k l i x).2.1 = 0 ∨ (uintGo k l i x).2.1 = 4 ∨ (uintGo k l i x).2.1 = 5)
  | 0, l, i, x, _, _ => by unfold uintGo; split <;> simp
  | k + 1, l, i, x, hi, hx => by
    unfold uintGo
    split
    · simp
    · split
      · simp
      · have hp : (0 : Int) ≤ l.getD i 0 % 128 * 2 ^ (7 * i) := Int.mul_nonneg (by omega) (Int.pow_nonneg (by omega))
        split
        · exact uintGo_spec k l (i + 1) _ (by omega) (by omega)
        · split
          · simp
          · exact ⟨by show i + 1 ≤ l.length; omega, by show 0 ≤ x + l.getD i 0 % 128 * 2 ^ (7 * i); omega, .inl rfl⟩
theorem uintR_spec (l : List Int) : (uintR l).2.2 ≤ l.length ∧ 0 ≤ (uintR l).1 ∧ ((uintR l).2.1 = 0 ∨ (uintR l).2.1 = 4 ∨ (uintR l).2.1 = 5) := uintGo_spec 10 l 0 0 (Nat.zero_le _) (by omega)
/-- x[lo:hi] of a slice that is read. -/
theorem mid_cut {w : World} {A : Option Addr} {c : Nat} {xs : List Int} (hC : (Kd.int .u8).C w A xs.length xs) (hc : xs.length ≤ c) (lo hi : Int) (a b : Nat) (hlo : lo = a) (hhi : hi = (a + b : Nat)) (h : a + b ≤ xs.length) :
    ∃ (A' : Option Addr) (R : List Int), R = (xs.drop a).take b ∧ R.length = b ∧ (Kd.int .u8).C w A' R.length R ∧ ∀ W : World, (Instr.slice 32 (.slice A xs.length c) (some (.int .i64 lo)) (some (.int .i64 hi)) none).run Tryz.prog W = .ok (.slice A' b (c - a)) W := by
  obtain ⟨i5, hi5, hz5, hs5, hb5⟩ := info_parts info5
  have h1 := Kd.C_drop (m := a) hC (by omega) hc
  have e1 : (xs.drop a).length = xs.length - a := List.length_drop
  have h2 := Kd.C_take (m := b) h1 (by rw [e1]; omega)
  have hl : ((xs.drop a).take b).length = b := by rw [List.length_take, e1]; omega
  refine ⟨_, _, rfl, hl, h2, fun W => ?_⟩
  have hr := cut_mid (P := Tryz.prog) 32 5 .i64 .i64 Tryz.underlying32 hi5 1 hs5 A xs.length c lo hi (by omega) (by omega) (by omega) hc W
  rw [hr]
  have e2 : lo.toNat = a := by omega
  have e3 : hi.toNat - a = b := by omega
  rw [e2, e3]; rfl
theorem sumOf_range (X : List Int) : 0 ≤ sumOf X ∧ sumOf X < 4294967296 := by
  unfold sumOf bits
  simp only [IntKind.wrap_u32]
  omega
theorem four_of {Y : List Int} (h : Y.length = 4) : ∃ y0 y1 y2 y3, Y = [y0, y1, y2, y3] := by
  match Y, h with
  | [a, b, c, d], _ => exact ⟨a, b, c, d, rfl⟩
theorem four_cells {w : World} {A : Option Addr} {Y : List Int} {y0 y1 y2 y3 : Int} (h : (Kd.int .u8).C w A Y.length Y) (hY : Y = [y0, y1, y2, y3]) :
    ∃ ad, A = some ad ∧ w.cell? ad = some (.int .u8 y0) ∧ w.cell? ⟨ad.block, ad.off + 1, none⟩ = some (.int .u8 y1) ∧ w.cell? ⟨ad.block, ad.off + 2, none⟩ = some (.int .u8 y2) ∧ w.cell? ⟨ad.block, ad.off + 3, none⟩ = some (.int .u8 y3) := by
  subst hY
  obtain ⟨ad, x0, hA, e0, _, h0⟩ := at_byte h 0 (by simp)
  obtain ⟨ad1, x1, hA1, e1, _, h1⟩ := at_byte h 1 (by simp)
  obtain ⟨ad2, x2, hA2, e2, _, h2⟩ := at_byte h 2 (by simp)
  obtain ⟨ad3, x3, hA3, e3, _, h3⟩ := at_byte h 3 (by simp)
  subst hA
  injection hA1 with hA1; injection hA2 with hA2; injection hA3 with hA3
  subst hA1; subst hA2; subst hA3
  simp only [List.getElem?_cons_zero, List.getElem?_cons_succ, Option.some.injEq] at e0 e1 e2 e3
  subst e0; subst e1; subst e2; subst e3
  have e : ad.add 0 = ad := by unfold Addr.add; simp
  rw [e] at h0
  exact ⟨ad, rfl, h0, h1, h2, h3⟩
theorem four_ne (a b c d s : Int) : Value.bool (!a == s % 256 || (!b == s / 256 % 256 || (!c == s / 65536 % 256 || !d == s / 16777216))) = .bool (decide ([a, b, c, d] ≠ fourL s)) := by
  congr 1
  unfold fourL
  by_cases h1 : a = s % 256 <;> by_cases h2 : b = s / 256 % 256 <;> by_cases h3 : c = s / 65536 % 256 <;> by_cases h4 : d = s / 16777216 <;> simp [h1, h2, h3, h4]
theorem reads_int {k : IntKind} {w : World} {A : Option Addr} {xs : List Int} (h : (Kd.int k).C w A xs.length xs) : ReadsInt w k A xs.length xs := by
  refine ⟨rfl, h.2.1, fun h0 => ?_⟩
  obtain ⟨_, _, hh⟩ := h
  obtain ⟨ad, hA, _⟩ := hh h0
  subst hA
  refine ⟨ad, rfl, fun j hj => ?_⟩
  obtain ⟨ad', x, hA', hx, _, hc⟩ := at_byte (k := k) (w := w) (A := some ad) (n := xs.length) (l := xs) ⟨rfl, by omega, hh⟩ j hj
  injection hA' with hA'; subst hA'
  rw [List.getD_eq_getElem?_getD, hx]; exact hc
theorem kd_of_reads {k : IntKind} {w : World} {A : Option Addr} {n : Nat} {xs : List Int} (h : ReadsInt w k A n xs) : (Kd.int k).C w A n xs := by
  obtain ⟨h1, h2, h3⟩ := h
  refine ⟨h1, h2, fun h0 => ?_⟩
  obtain ⟨ad, hA, hc⟩ := h3 h0
  refine ⟨ad, hA, fun j p hj => ⟨[.int k p], rfl, rfl, fun i u hu => ?_⟩⟩
  obtain ⟨rfl, rfl⟩ : i = 0 ∧ u = .int k p := by
    cases i with
    | zero => exact ⟨rfl, by simpa using hu.symm⟩
    | succ i => simp at hu
  have hjl := (List.getElem?_eq_some_iff.1 hj).1
  have := hc j (by omega)
  rw [List.getD_eq_getElem?_getD, hj] at this
  have e1 : (Kd.int k).sz = 1 := rfl
  rw [e1, Nat.mul_one, Nat.add_zero]; exact this
/-- What crc.Open leaves. -/
def OpenP (w : World) (r : List Int × Int × Int) (e : Ending) (w' : World) : Prop := ∃ v, e = .returned (.tuple #[v, .int .i64 r.2.1, .int .i64 r.2.2]) ∧ RB w' w v r.1 ∧ Below w.heap.size w w'
theorem OpenP.err {w w' : World} (er : Int) (hb : Below w.heap.size w w') : OpenP w ([], 0, er) (.returned (.tuple #[.slice none 0 0, .int .i64 0, .int .i64 er])) w' := ⟨_, rfl, Kd.R_nil _ _ _ _ _, hb⟩
attribute [local go_sem ↓] Go.wp_at_zero Go.wp_at_succ
set_option maxRecDepth 1000000 in
set_option maxHeartbeats 1600000 in
theorem open_calls (A : Option Addr) (n c : Nat) (l : List Int) (w : World) (hl : l.length = n) (hnc : n ≤ c) (hn : n ≤ 140737488351232) (hC : (Kd.int .u8).C w A n l) (hby : ∀ x ∈ l, 0 ≤ x ∧ x ≤ 255) :
    Calls Tryz.prog 99 #[.slice A n c] w (OpenP w (openF l)) := by
  subst hl
  have HC := Lib.hid hC; have HBy := Lib.hid hby
  clear hC hby
  go_enter Tryz.func99, Tryz.ntmps99
  go_wp2_with fail
  refine (from_calls A l.length c l w rfl hn HC.out).mono ?_
  rintro e w1 ⟨g, rfl, hg, ⟨A1, c1, hr1⟩, hb1⟩
  have HR1 := Lib.hid hr1; have HB1 := Lib.hid hb1
  clear hr1 hb1
  go_wp2_with fail
  refine (uint_calls HR1.out HBy.out).mono ?_
  rintro e w2 ⟨rfl, ⟨A2, c2, hr2⟩, hg2⟩
  obtain ⟨sp1, sp2, sp3⟩ := uintR_spec l
  have hopen : openF l = openF l := rfl
  conv at hopen => rhs; unfold openF
  obtain ⟨⟨m, er, k⟩, hu⟩ : ∃ r, uintR l = r := ⟨_, rfl⟩
  rw [hu] at hr2 sp1 sp2 sp3 hopen ⊢
  simp only at hr2 sp1 sp2 sp3 hopen ⊢
  have HR2 := Lib.hid hr2
  have HB2 := Lib.hid (HB1.out.grown hg2 HB1.out.size (fun j hj => by injection hj with hj; omega))
  clear hr2 hg2 hu
  by_cases h1 : er = 0
  · subst h1
    rw [if_neg (by simp)] at hopen
    by_cases h2 : 4096 < m
    · rw [if_pos h2] at hopen
      have HO := Lib.hid hopen
      clear hopen
      go_wp2_with fail
      go_ret3
      rw [HO.out]
      exact OpenP.err _ HB2.out
    · rw [if_neg h2] at hopen
      obtain ⟨n, rfl⟩ := Int.eq_ofNat_of_zero_le sp2
      have hn4 : n ≤ 4096 := by omega
      have hdl : (l.drop k).length = l.length - k := List.length_drop
      obtain ⟨q, hq⟩ : ∃ q, q = l.length - k := ⟨_, rfl⟩
      rw [← hq] at hdl hopen
      have HDl := Lib.hid hdl; have HQ := Lib.hid hq
      have hqk : q + k = l.length := by omega
      have hq63 : (q : Int) ≤ 140737488351232 := by omega
      have hk63 : (k : Int) ≤ 140737488351232 := by omega
      have HQK := Lib.hid hqk
      by_cases h3 : (q : Int) < (n : Int) + 4
      · rw [if_pos h3] at hopen
        have HO := Lib.hid hopen
        clear hopen hdl hq hqk
        go_wp2_with fail
        refine (left_calls HR2.out).mono ?_
        rintro e w3 ⟨rfl, rfl⟩
        rw [HDl.out]
        go_wp2_with fail
        go_ret3
        rw [HO.out]
        exact OpenP.err _ HB2.out
      · rw [if_neg h3] at hopen
        have HO := Lib.hid hopen
        clear hopen hdl hq hqk
        go_wp2_with fail
        refine (left_calls HR2.out).mono ?_
        rintro e w3 ⟨rfl, rfl⟩
        rw [HDl.out]
        go_wp2_with fail
        refine (left_calls HR2.out).mono ?_
        rintro e w3 ⟨rfl, rfl⟩
        rw [HDl.out]
        have hat : (l.length : Int) - (q : Int) = (k : Int) := by have := HQK.out; omega
        rw [Int.toNat_natCast] at HO
        have hkn : k + n + 4 ≤ l.length := by have := HQK.out; omega
        obtain ⟨A3, X, hX, hXl, hXC, hcut3⟩ := mid_cut HC.out hnc (k : Int) ((k : Int) + (n : Int)) k n rfl (by omega) (by omega)
        obtain ⟨A5, Y, hY, hYl, hYC, hcut5⟩ := mid_cut HC.out hnc ((k : Int) + (n : Int)) ((k : Int) + (n : Int) + 4) (k + n) 4 (by omega) (by omega) hkn
        rw [← hX, ← hY] at HO
        have hXb : ∀ x ∈ X, 0 ≤ x ∧ x ≤ 255 := fun x hx => HBy.out x (List.mem_of_mem_drop (List.mem_of_mem_take (hX ▸ hx)))
        have hown0 := own_lit w2 w.heap.size 5 .u8 [] HB2.out.size (by simp)
        have hba := HB2.out.alloc HB2.out.size (.cells #[] 5)
        have hri := reads_int (Kd.C_below hXC hba)
        rw [hXl] at hri
        have HOwn := Lib.hid hown0; have HBa := Lib.hid hba; have HRi := Lib.hid hri
        have HX := Lib.hid hX; have HXl := Lib.hid hXl; have HXb := Lib.hid hXb; have HYC := Lib.hid hYC; have HYl := Lib.hid hYl
        clear hown0 hba hri hX hXC hY hXl hXb hYC hYl
        go_wp2_with (at_builtin; refine print_append_row (w0 := w) w.heap.size rfl _ _ 32 5 .u8 1 rfl Tryz.underlying32 info5 (by decide) _ [] X A3 n (c - k) rfl rfl HOwn.out HRi.out HBa.out HBa.out.size (by simp; omega) ?_; intro v1 w4 hown hb4 _ _)
        simp only [List.nil_append] at hown
        rw [HXl.out] at hown
        obtain ⟨A4, c4, rfl⟩ := own_slice hown
        have hC4 : (Kd.int .u8).C w4 A4 n X := by
          obtain ⟨A6, c6, he, hC6⟩ := own_reads hown
          injection he with q1 q2 q3
          subst q1
          exact kd_of_reads hC6
        have HX4 : Hid ((Kd.int .u8).C w4.drew A4 n X) := Lib.hid (Kd.C_below hC4 (Below.refl _ _).drew)
        have HW4 := Lib.hid hown; have HB4 := Lib.hid hb4
        clear hown hb4 hC4
        have hsum := sumOf_range X
        obtain ⟨hs0, hs1⟩ := hsum
        obtain ⟨y0, y1, y2, y3, hY4⟩ := four_of HYl.out
        have hYw := Kd.C_below HYC.out HB4.out
        have hcells := four_cells hYw hY4
        obtain ⟨ad5, rfl, d0, d1, d2, d3⟩ := hcells
        have ha1 := fun W => arrayAt_four W (some ad5) 4 (c - (k + n)) (Nat.le_refl _)
        go_cut [59] (fun t wx => t = .bool (decide (Y ≠ fourL (sumOf X))) ∧ Below w4.heap.size w4 wx)
        case first =>
          have hw1 : IntKind.i64.wrap ((k : Int) + (n : Int) + 4) = (k : Int) + (n : Int) + 4 := IntWalk.i64_in _ (by omega)
          have hq4 := eq_four y0 y1 y2 y3 (sumOf X % 256) (sumOf X / 256 % 256) (sumOf X / 65536 % 256) (sumOf X / 16777216)
          go_region_with (first
            | (go_at_call 115; refine (sum_calls A4 n c4 X _ HXl.out (by omega) HX4.out HXb.out).mono ?_; rintro e w5 ⟨rfl, hb5⟩; have HB5 := Lib.hid hb5; have u0 := pw_cell_below (below_step (Below.refl w4.heap.size w4).drew hb5) d0; have u1 := pw_cell_below (below_step (Below.refl w4.heap.size w4).drew hb5) d1; have u2 := pw_cell_below (below_step (Below.refl w4.heap.size w4).drew hb5) d2; have u3 := pw_cell_below (below_step (Below.refl w4.heap.size w4).drew hb5) d3; clear hb5)
            | (go_at_call 114; refine (four_calls _ _ hs0 hs1).mono ?_; rintro e w6 ⟨rfl, hh6, hb6⟩; have HB6 := Lib.hid hb6; have v0 := pw_cell_below hb6 u0; have v1 := pw_cell_below hb6 u1; have v2 := pw_cell_below hb6 u2; have v3 := pw_cell_below hb6 u3; have ha2 := fun W => arrayAt_four W (some ⟨w5.heap.size, 0, none⟩) 4 4 (Nat.le_refl _); have t0 : w6.cell? ⟨w5.heap.size, 0, none⟩ = some (.int .u8 (sumOf X % 256)) := blk_cell hh6 0; have t1 : w6.cell? ⟨w5.heap.size, 1, none⟩ = some (.int .u8 (sumOf X / 256 % 256)) := blk_cell hh6 1; have t2 : w6.cell? ⟨w5.heap.size, 2, none⟩ = some (.int .u8 (sumOf X / 65536 % 256)) := blk_cell hh6 2; have t3 : w6.cell? ⟨w5.heap.size, 3, none⟩ = some (.int .u8 (sumOf X / 16777216)) := blk_cell hh6 3; clear hh6 hb6))
          all_goals
            go_wp2
            go_meet
            case rel => exact ⟨by rw [hY4, four_ne], below_step (below_step (Below.refl w4.heap.size w4).drew HB5.out) HB6.out⟩
        case rest =>
          obtain ⟨rfl, hB⟩ := hcut
          have HB := Lib.hid (below_step HB4.out hB)
          have HWc := Lib.hid (pw_own_below HW4.out hB)
          clear hB
          by_cases hne : Y ≠ fourL (sumOf X)
          · have HO' : Hid (openF l = ([], 0, 5)) := Lib.hid (by rw [HO.out, if_pos hne])
            rw [decide_eq_true hne]
            clear hne
            go_wp2_with fail
            go_ret3
            rw [HO'.out]
            exact OpenP.err _ HB.out
          · have HO' : Hid (openF l = (X, ((k + n + 4 : Nat) : Int), 0)) := Lib.hid (by rw [HO.out, if_neg hne])
            rw [decide_eq_false hne]
            clear hne
            go_wp2_with fail
            go_ret3
            rw [HO'.out]
            refine ⟨_, rfl, ?_, HB.out⟩
            exact Kd.R_of_own (enc := Value.int .u8) (by rw [HXl.out]; exact HWc.out) (fun _ _ => trivial)
  · have hne : (er != 0) = true := bne_iff_ne.2 h1
    rw [if_pos h1] at hopen
    have HO := Lib.hid hopen
    clear hopen
    go_wp2_with fail
    go_ret3
    rw [HO.out]
    exact OpenP.err _ HB2.out
end Go.Proofs.YtiinelmednbpmaaGreat.Crc
/- The walk of crc.Scan. -/
namespace Go.Proofs.YtiinelmednbpmaaGreat.Crc
open Go.RowKit Go.Proofs.YtiinelmednbpmaaGreatW.PrintWords Go.Proofs.YtiinelmednbpmaaGreat.Cut Go.Proofs.YtiinelmednbpmaaGreat.Pack
abbrev KB : Kd (List Int) := Kd.slice 5 (Kd.int .u8)
/-- What crc.Scan answers, from place at on. -/
def scanGo : Nat → List Int → Nat → List (List Int) × Nat
  | 0, _, at_ => ([], at_)
  | k + 1, l, at_ => if at_ < l.length then (if (openF (l.drop at_)).2.2 ≠ 0 then ([], at_) else ((openF (l.drop at_)).1 :: (scanGo k l (at_ + (openF (l.drop at_)).2.1.toNat)).1, (scanGo k l (at_ + (openF (l.drop at_)).2.1.toNat)).2)) else ([], at_)
def scanF (l : List Int) : List (List Int) × Nat := scanGo (l.length + 1) l 0
theorem openF_ok (l : List Int) (h : (openF l).2.2 = 0) : 0 < (openF l).2.1 ∧ (openF l).2.1 ≤ l.length ∧ (openF l).1.length ≤ 4096 := by
  obtain ⟨sp1, sp2, sp3⟩ := uintR_spec l
  unfold openF at h ⊢
  simp only at h ⊢
  split at h
  · rename_i h1
    exact absurd h h1
  · rename_i h1
    rw [if_neg h1]
    split at h
    · simp at h
    · rename_i h2
      rw [if_neg h2]
      split at h
      · simp at h
      · rename_i h3
        rw [if_neg h3]
        split at h
        · simp at h
        · rename_i h4
          rw [if_neg h4]
          refine ⟨?_, ?_, ?_⟩
          · show (0 : Int) < ((_ : Nat) : Int); omega
          · show (((_ : Nat) : Int)) ≤ _; omega
          · show ((l.drop _).take _).length ≤ 4096
            rw [List.length_take, List.length_drop]; omega
/-- Behind acc, from place p on, the rest. -/
def ScanI (l : List Int) (p : Nat) (acc : List (List Int)) : Prop := ∃ k, l.length < k + p ∧ (acc ++ (scanGo k l p).1, (scanGo k l p).2) = scanF l
theorem ScanI.fin {l : List Int} {acc : List (List Int)} (h : ScanI l l.length acc) : scanF l = (acc, l.length) := by
  obtain ⟨k, hk, h⟩ := h
  rw [← h]
  cases k with
  | zero => simp [scanGo]
  | succ k => simp [scanGo]
theorem ScanI.step {l : List Int} {p : Nat} {acc : List (List Int)} (h : ScanI l p acc) (hp : p < l.length) {x : List Int} {m er : Int} (ho : openF (l.drop p) = (x, m, er)) :
    (er ≠ 0 → scanF l = (acc, p)) ∧ (er = 0 → ScanI l (p + m.toNat) (acc ++ [x])) := by
  obtain ⟨k, hk, h⟩ := h
  obtain ⟨k, rfl⟩ : ∃ j, k = j + 1 := ⟨k - 1, by omega⟩
  have hok := openF_ok (l.drop p)
  rw [scanGo, if_pos hp, ho] at h
  rw [ho] at hok
  constructor
  · intro he
    rw [if_pos he] at h
    rw [← h]; simp
  · intro he
    rw [if_neg (by simpa using he)] at h
    have hm := (hok he).1
    simp only at hm
    exact ⟨k, by omega, by rw [← h]; simp⟩
theorem info22 : (Tryz.prog.info? 32).map (fun i => (i.zero, i.size, i.bytes)) = some (some (.slice none 0 0), 1, 24) := by kernel_rfl
def ScanP (w : World) (r : List (List Int) × Nat) (e : Ending) (w' : World) : Prop := ∃ v, e = .returned (.tuple #[v, .int .i64 r.2]) ∧ Kd.S KB 32 w' w.heap.size (fun _ => True) v r.1 ∧ Below w.heap.size w w'
set_option maxRecDepth 1000000 in
set_option maxHeartbeats 1600000 in
theorem scan_calls (A : Option Addr) (n c : Nat) (l : List Int) (w : World) (hl : l.length = n) (hnc : n ≤ c) (hn : n ≤ 16777216) (hC : (Kd.int .u8).C w A n l) (hby : ∀ x ∈ l, 0 ≤ x ∧ x ≤ 255) :
    Calls Tryz.prog 77 #[.slice A n c] w (ScanP w (scanF l)) := by
  subst hl
  have HC := Lib.hid hC; have HBy := Lib.hid hby
  clear hC hby
  go_enter Tryz.func77, Tryz.ntmps77
  go_wp2
  go_step3
  go_wp2
  go_step3
  go_wp2
  go_loopw [4, 5] (fun v a wr => ∃ (p : Nat) (acc : List (List Int)), a = .int .i64 p ∧ p ≤ l.length ∧ acc.length ≤ p ∧ Kd.S KB 32 wr w.heap.size (fun _ => True) v acc ∧ Below w.heap.size w wr ∧ ScanI l p acc) (fun _ a _ => l.length - (intOf a).toNat)
  case atStart => exact ⟨0, [], rfl, Nat.zero_le _, Nat.le_refl _, Kd.S_nil _ _ _ _ _, Below.refl _ _, ⟨l.length + 1, by omega, rfl⟩⟩
  case round =>
    obtain ⟨p, acc, rfl, hp, hacc, hr, hb, hi⟩ := hrel
    have HR := Lib.hid hr; have HB := Lib.hid hb; have HI := Lib.hid hi
    clear hr hb hi
    by_cases hlt : p < l.length
    · have hlti : (p : Int) < (l.length : Int) := by omega
      obtain ⟨A1, R, hR, hRC, hRc, hcut⟩ := tail_cut (P := Tryz.prog) (d := Kd.int .u8) 32 5 .i64 Tryz.underlying32 info5 rfl HC.out hnc (p : Int) p rfl (by omega)
      have hRl : R.length ≤ 16777216 := by rw [hR, List.length_drop]; omega
      have hRb : ∀ x ∈ R, 0 ≤ x ∧ x ≤ 255 := fun x hx => HBy.out x (List.mem_of_mem_drop (hR ▸ hx))
      have HRC := Lib.hid (Kd.C_below hRC HB.out); have HRb := Lib.hid hRb; have HRR := Lib.hid hR
      clear hRC hRb hR
      go_wp2_with fail
      refine (open_calls A1 R.length (c - p) R _ rfl hRc (by omega) HRC.out HRb.out).mono ?_
      rintro e w2 ⟨v2, rfl, hr2, hb2⟩
      have hok := openF_ok R
      obtain ⟨⟨x, m, er⟩, ho⟩ : ∃ r, openF R = r := ⟨_, rfl⟩
      have hro : openF (l.drop p) = (x, m, er) := by rw [← HRR.out]; exact ho
      rw [ho] at hr2 hok ⊢
      simp only at hr2 hok ⊢
      have hst := HI.out.step hlt hro
      have HR2 := Lib.hid hr2; have HB2 := Lib.hid (below_step HB.out hb2); have HRb2 := Lib.hid (Kd.S_below HR.out hb2); have HRo2 := Lib.hid (Kd.S_mono (ok' := fun k => True ∧ ¬ wr.heap.size ≤ k) (Kd.S_old HR.out hb2) (fun k hk => ⟨trivial, by have := hk.2; omega⟩)); have hlt4 := Kd.S_lt HR.out
      have hsz := hb2.size
      have hRp : R.length = l.length - p := by rw [HRR.out, List.length_drop]
      clear hr2 hb2 ho hro HRC HRb HRR
      by_cases her : er = 0
      · subst her
        obtain ⟨hm0, hm1, _⟩ := hok rfl
        obtain ⟨q, rfl⟩ := Int.eq_ofNat_of_zero_le (show 0 ≤ m by omega)
        have hst' := hst.2 rfl
        have HSt := Lib.hid hst'
        obtain ⟨A2, c2, rfl⟩ := Kd.R_slice HR2.out
        have hpq : p + q ≤ l.length := by omega
        have hM : KB.M w2 w.heap.size (fun k => wr.heap.size ≤ k) x [.slice A2 x.length c2] :=
          ⟨_, rfl, Kd.R_flat (fun h => h) (Kd.R_lower HR2.out HB.out.size) fun k hk _ => Kd.R_base HR2.out k hk⟩
        have h4 : ∀ k, wr.heap.size ≤ k → True ∧ some k ≠ u4.ownBlock := fun k hk => ⟨trivial, fun e => by have := hlt4 k e.symm; omega⟩
        have H4 := Lib.hid h4
        have HM := Lib.hid hM
        clear hst hst' hok hM h4 hlt4
        go_wp2_with (at_builtin; refine Kd.S_append KB (w0 := w) w.heap.size rfl _ _ 22 32 (.slice none 0 0) 24 rfl Tryz.underlying22 info22 rfl (Nat.lt_succ_self 0) (by decide) u4 acc x [.slice A2 x.length c2] (fun _ => True) (fun k => wr.heap.size ≤ k) rfl rfl HM.out H4.out (fun _ _ => trivial) HRo2.out HB2.out HB2.out.size (by omega) ?_; intro v3 w3 hr3 hb3 _ _)
        have HR3 := Lib.hid hr3; have HB3 := Lib.hid hb3
        clear hr3 hb3
        go_wp2
        go_roundw
        case rel => exact ⟨p + q, acc ++ [x], by go_num, hpq, by rw [List.length_append]; simp; omega, HR3.out, HB3.out, HSt.out⟩
        case measure => simp [intOf]; omega
      · have hne : (er != 0) = true := bne_iff_ne.2 her
        have HSt := Lib.hid (hst.1 her)
        clear hst hok hlt4
        go_wp2
        rw [Exit.noGoto_ret]
        go_ret2
        rw [HSt.out]
        exact ⟨_, rfl, HRb2.out, HB2.out⟩
    · obtain rfl : p = l.length := by omega
      have HSt := Lib.hid HI.out.fin
      go_wp2
      rw [Exit.noGoto_ret]
      go_ret2
      rw [HSt.out]
      exact ⟨_, rfl, HR.out, HB.out⟩
end Go.Proofs.YtiinelmednbpmaaGreat.Crc
