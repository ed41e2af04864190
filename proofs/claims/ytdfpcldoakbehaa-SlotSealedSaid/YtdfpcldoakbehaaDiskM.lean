import Derived.Test.YtdfpcldoakbehaaProg
import Derived.Test.YtdfpcldoakbehaaRow
import Derived.Test.YtdfpcldoakbehaaCut
import Derived.Outline
import Derived.BigQuiet
import Derived.Deep.QuietTactic
import Derived.Deep.DeepCutAuto
import Derived.Deep.RegionHeld3
/- A disk in memory, and the walks of its methods. -/
namespace Go.Proofs.Ytdfpcldoakbehaa.DiskM
open Go.RowKit Go.Proofs.YtdfpcldoakbehaaW.PrintWords Go.Proofs.YtdfpcldoakbehaaW.PrintLast Go.Proofs.YtdfpcldoakbehaaW.PrintMore Go.Proofs.Ytdfpcldoakbehaa.Row Go.Proofs.Ytdfpcldoakbehaa.Cut
theorem info5 : (Try.prog.info? 5).map (fun i => (i.zero, i.size, i.bytes)) = some (some (.int .u8 0), 1, 1) := by kernel_rfl

/-- The disk at g: its bytes are the slice v. -/
structure Dk (w0 w : World) (g : Nat) (v : Value) (room : Int) (bs : List Int) (safe : Nat) : Prop where
  below : Below w0.heap.size w0 w
  kg : w0.heap.size ≤ g
  blk : w.heap[g]? = some (.cells #[.int .i64 room, v, .int .i64 safe] 51 (0, 0))
  row : Row w w0.heap.size 5 v (nums .u8 bs)
  room1 : room ≤ 1048576
  fit : (bs.length : Int) ≤ room
  sf : safe ≤ bs.length
  byte : ∀ x ∈ bs, 0 ≤ x ∧ x ≤ 255
/-- What a method leaves: all but the disk's own blocks. -/
def Fr (w w' : World) (g : Nat) (v v' : Value) : Prop :=
  w.heap.size ≤ w'.heap.size ∧ (∀ k, k < w.heap.size → k ≠ g → some k ≠ v.ownBlock → w'.heap[k]? = w.heap[k]?) ∧ (v'.ownBlock = none ∨ v'.ownBlock = v.ownBlock ∨ ∃ b, v'.ownBlock = some b ∧ w.heap.size ≤ b)
theorem Fr.refl (w : World) (g : Nat) (v : Value) : Fr w w g v v := ⟨Nat.le_refl _, fun _ _ _ _ => rfl, .inr (.inl rfl)⟩
theorem Fr.trans {w1 w2 w3 : World} {g : Nat} {v1 v2 v3 : Value} (h : Fr w1 w2 g v1 v2) (h' : Fr w2 w3 g v2 v3) : Fr w1 w3 g v1 v3 := by
  obtain ⟨a1, a2, a3⟩ := h
  obtain ⟨b1, b2, b3⟩ := h'
  refine ⟨Nat.le_trans a1 b1, fun k hk hg hv => ?_, ?_⟩
  · have hv2 : some k ≠ v2.ownBlock := by
      intro e
      rcases a3 with h | h | ⟨b, h, hb⟩
      · rw [h] at e; cases e
      · exact hv (e.trans h)
      · rw [h] at e; injection e with e; omega
    exact (b2 k (by omega) hg hv2).trans (a2 k hk hg hv)
  · rcases b3 with h | h | ⟨b, h, hb⟩
    · exact .inl h
    · rcases a3 with h' | h' | ⟨b, h', hb⟩
      · exact .inl (h.trans h')
      · exact .inr (.inl (h.trans h'))
      · exact .inr (.inr ⟨b, h.trans h', hb⟩)
    · exact .inr (.inr ⟨b, h, by omega⟩)
theorem Fr.step {w1 w2 w3 : World} {g : Nat} {v1 v2 : Value} (h : Fr w1 w2 g v1 v2) (hb : Below w2.heap.size w2 w3) : Fr w1 w3 g v1 v2 :=
  ⟨Nat.le_trans h.1 hb.size, fun k hk hg hv => (hb.block k (by have := h.1; omega)).trans (h.2.1 k hk hg hv), h.2.2⟩
theorem Fr.after {w1 w2 w3 : World} {g : Nat} {v1 v2 : Value} (hb : Below w1.heap.size w1 w2) (h : Fr w2 w3 g v1 v2) : Fr w1 w3 g v1 v2 := by
  refine ⟨Nat.le_trans hb.size h.1, fun k hk hg hv => (h.2.1 k (by have := hb.size; omega) hg hv).trans (hb.block k hk), ?_⟩
  rcases h.2.2 with h | h | ⟨b, h, hbb⟩
  · exact .inl h
  · exact .inr (.inl h)
  · exact .inr (.inr ⟨b, h, by have := hb.size; omega⟩)

section
variable {w0 w w' : World} {g : Nat} {v : Value} {room : Int} {bs : List Int} {safe : Nat}
theorem Dk.step (D : Dk w0 w g v room bs safe) (hb : Below w.heap.size w w') : Dk w0 w' g v room bs safe :=
  ⟨below_step D.below hb, D.kg, (hb.block _ (Array.getElem?_eq_some_iff.1 D.blk).1).trans D.blk, D.row.below hb, D.room1, D.fit, D.sf, D.byte⟩
theorem Dk.c0 (D : Dk w0 w g v room bs safe) : w.cell? ⟨g, 0, none⟩ = some (.int .i64 room) := blk_cell D.blk 0
theorem Dk.c1 (D : Dk w0 w g v room bs safe) : w.cell? ⟨g, 1, none⟩ = some v := blk_cell D.blk 1
theorem Dk.c2 (D : Dk w0 w g v room bs safe) : w.cell? ⟨g, 2, none⟩ = some (.int .i64 safe) := blk_cell D.blk 2
theorem Dk.fz (D : Dk w0 w g v room bs safe) (i : Nat) : w.frozen? ⟨g, i, none⟩ = false := blk_frozen D.blk i
theorem Dk.slice (D : Dk w0 w g v room bs safe) : ∃ A c, v = .slice A bs.length c ∧ bs.length ≤ c ∧ c ≤ 9223372036854775807 := by
  have := D.row.slice; rwa [nums_length] at this
theorem Dk.ne (D : Dk w0 w g v room bs safe) (k : Nat) (hk : v.ownBlock = some k) : k ≠ g := by
  obtain ⟨_, _, cur, h⟩ := D.row.lt k hk
  exact blk_ne h D.blk (by decide)
/-- The disk's slice is turned into another one of the call's own. -/
theorem Dk.put {w1 : World} {v1 : Value} {bs1 : List Int} (D : Dk w0 w g v room bs safe) (hg : w.grownBy w1 v.ownBlock) (hr : Row w1 w0.heap.size 5 v1 (nums .u8 bs1)) (hfit : (bs1.length : Int) ≤ room) (hsf : safe ≤ bs1.length) (hby : ∀ x ∈ bs1, 0 ≤ x ∧ x ≤ 255) (hne : ∀ k, v1.ownBlock = some k → k ≠ g)
    (hat : v1.ownBlock = none ∨ v1.ownBlock = v.ownBlock ∨ ∃ b, v1.ownBlock = some b ∧ w.heap.size ≤ b) : Dk w0 (w1.setCell ⟨g, 1, none⟩ v1) g v1 room bs1 safe ∧ Fr w (w1.setCell ⟨g, 1, none⟩ v1) g v v1 := by
  have hbl : Below w0.heap.size w0 w1 := D.below.grown hg D.below.size (fun k hk => (D.row.lt k hk).1)
  have hb1 : w1.heap[g]? = some (.cells #[.int .i64 room, v, .int .i64 safe] 51 (0, 0)) := (hg.block g (Array.getElem?_eq_some_iff.1 D.blk).1 (fun e => (D.ne g e.symm) rfl)).trans D.blk
  refine ⟨⟨below_set hbl D.kg, D.kg, heap_setCell_same w1 g 1 _ 51 v1 hb1, hr.move fun k hk => set_other _ (hne k hk), D.room1, hfit, hsf, hby⟩, ?_, fun k hk hkg hkv => ?_, hat⟩
  · have := hg.size; simpa using this
  · exact (set_other _ hkg).trans (hg.block k hk hkv)
end

set_option maxHeartbeats 1000000 in
theorem append_ok {w0 w : World} {g : Nat} {v : Value} {room : Int} {bs : List Int} {safe : Nat} (D : Dk w0 w g v room bs safe) (A : Option Addr) (c : Nat) (l : List Int) (hK : (Kd.int .u8).C w A l.length l) (hby : ∀ x ∈ l, 0 ≤ x ∧ x ≤ 255) (hfit : (l.length : Int) ≤ room - bs.length) :
    Calls Try.prog 104 #[.pointer (some ⟨g, 0, none⟩), .slice A l.length c] w fun e w' => e = .returned (.int .i64 0) ∧ ∃ v', Dk w0 w' g v' room (bs ++ l) safe ∧ Fr w w' g v v' := by
  obtain ⟨A', c', hv, hc, hcm⟩ := D.slice
  have c0 := D.c0; have c1 := D.c1
  rw [hv] at c1
  have f1 := D.fz 1
  have hr1 := D.room1
  have hbl := D.fit
  have HD := Lib.hid D; have HK := Lib.hid hK; have HV := Lib.hid hv
  have hll : l.length ≤ 1048576 := by omega
  clear D hK hv
  go_enter Try.func104, Try.ntmps104
  go_upto_region 1 with fail
  go_cut [21] (fun t wx => t = .bool false ∧ Drawn0 w wx)
  case first =>
    go_quiet (fail)
    go_wp2
    go_meet
    case rel => exact ⟨by rw [decide_eq_false (by omega)], (Drawn0.refl w).step _⟩
  case rest =>
    obtain ⟨rfl, hd⟩ := hcut
    have D1 := HD.out.step hd.below
    have hnews : 0 < (nums .u8 l).length → ∃ a, A = some a ∧ ∀ j u, (nums .u8 l)[j]? = some u → wc.cell? (a.add j) = some u := fun h0 => by
      rw [nums_length] at h0
      obtain ⟨_, _, h⟩ := Kd.C_below HK.out hd.below
      obtain ⟨a, ha, hc⟩ := h h0
      refine ⟨a, ha, fun j u hu => ?_⟩
      simp only [nums, List.getElem?_map, Option.map_eq_some_iff] at hu
      obtain ⟨p, hp, rfl⟩ := hu
      obtain ⟨cs, _, hcs, hat⟩ := hc j p hp
      obtain rfl : cs = [.int .u8 p] := hcs
      have := hat 0 _ rfl
      have e1 : (Kd.int .u8).sz = 1 := rfl
      rwa [e1, Nat.mul_one, Nat.add_zero] at this
    obtain ⟨i5, hi5, hz5, hs5, hb5⟩ := info_parts info5
    obtain ⟨v', w', hr, hrow, hgr, hat⟩ := run_append (P := Try.prog) wc w0.heap.size 23 23 5 i5 (.int .u8 0) 1 Try.underlying23 hi5 hz5 hs5 hb5 rfl v (nums .u8 bs) D1.row A c (nums .u8 l) hnews (fun u hu => by
      simp only [nums, List.mem_map] at hu
      obtain ⟨x, _, rfl⟩ := hu; rfl) (by rw [nums_length, nums_length]; omega) (by rw [nums_length, nums_length]; omega) D1.below.size
    have hput := D1.put (bs1 := bs ++ l) hgr (by rw [nums_append]; exact hrow) (by rw [List.length_append]; omega) (by rw [List.length_append]; have := D1.sf; omega) (fun x hx => by
      rcases List.mem_append.1 hx with hx | hx
      · exact D1.byte x hx
      · exact hby x hx) (fun k hk => by
      rcases hat with h | ⟨b, h, hb⟩
      · exact D1.ne k (h.symm.trans hk)
      · rw [h] at hk; injection hk with hk; have := (Array.getElem?_eq_some_iff.1 D1.blk).1; omega) (.inr hat)
    have hb1 : w'.heap[g]? = some (.cells #[.int .i64 room, v, .int .i64 safe] 51 (0, 0)) := (hgr.block g (Array.getElem?_eq_some_iff.1 D1.blk).1 (fun e => (D1.ne g e.symm) rfl)).trans D1.blk
    have d1 : w'.cell? ⟨g, 1, none⟩ = some v := blk_cell hb1 1
    have e1 : w'.frozen? ⟨g, 1, none⟩ = false := blk_frozen hb1 1
    have k1 := D1.c1
    rw [HV.out] at hr k1
    rw [nums_length] at hr
    obtain ⟨A2, k2, rfl, _, _⟩ := hput.1.slice
    rw [List.length_append] at hput hr
    have HR := Lib.hid hr; have HP := Lib.hid hput
    clear hr hput hb1 hnews hrow hgr hat hz5 hs5 hb5 hi5 D1 c1
    go_wp2_with (at_builtin; refine wpList_append_run rfl _ _ 23 rfl _ _ _ rfl rfl HR.out ?_)
    go_ret
    exact ⟨rfl, _, HP.out.1, Fr.after hd.below HP.out.2⟩

set_option maxHeartbeats 1000000 in
theorem append_full {w0 w : World} {g : Nat} {v : Value} {room : Int} {bs : List Int} {safe : Nat} (D : Dk w0 w g v room bs safe) (A : Option Addr) (c n : Nat) (hn : n ≤ 9223372036854775807) (hfit : room - bs.length < (n : Int)) :
    Calls Try.prog 104 #[.pointer (some ⟨g, 0, none⟩), .slice A n c] w fun e w' => e = .returned (.int .i64 3) ∧ Drawn0 w w' := by
  obtain ⟨A', c', hv, hc, hcm⟩ := D.slice
  have c0 := D.c0; have c1 := D.c1
  rw [hv] at c1
  have hr1 := D.room1
  have hbl := D.fit
  clear D hv
  go_enter Try.func104, Try.ntmps104
  go_upto_region 1 with fail
  go_cut [21] (fun t wx => t = .bool true ∧ Drawn0 w wx)
  case first =>
    go_quiet (fail)
    go_wp2
    go_meet
    case rel => exact ⟨rfl, (Drawn0.refl w).step _⟩
  case rest =>
    obtain ⟨rfl, hd⟩ := hcut
    go_wp2
    go_ret
    exact ⟨rfl, hd⟩
set_option maxHeartbeats 1000000 in
theorem append_nil (w : World) (A : Option Addr) (c n : Nat) : Calls Try.prog 104 #[.pointer none, .slice A n c] w fun e w' => e = .returned (.int .i64 3) ∧ Drawn0 w w' := by
  go_enter Try.func104, Try.ntmps104
  go_upto_region 1 with fail
  go_cut [21] (fun t wx => t = .bool true ∧ Drawn0 w wx)
  case first =>
    go_quiet (fail)
    go_wp2
    go_meet
    case rel => exact ⟨rfl, (Drawn0.refl w).step _⟩
  case rest =>
    obtain ⟨rfl, hd⟩ := hcut
    go_wp2
    go_ret
    exact ⟨rfl, hd⟩

theorem Dk.sync {w0 w : World} {g : Nat} {v : Value} {room : Int} {bs : List Int} {safe : Nat} (D : Dk w0 w g v room bs safe) (m : Nat) (hm : m ≤ bs.length) : Dk w0 (w.setCell ⟨g, 2, none⟩ (.int .i64 m)) g v room bs m ∧ Fr w (w.setCell ⟨g, 2, none⟩ (.int .i64 m)) g v v := by
  refine ⟨⟨below_set D.below D.kg, D.kg, heap_setCell_same w g 2 _ 51 _ D.blk, D.row.move fun k hk => set_other _ (D.ne k hk), D.room1, D.fit, hm, D.byte⟩, by simp, fun k _ hkg _ => set_other _ hkg, .inr (.inl rfl)⟩
set_option maxHeartbeats 1000000 in
theorem sync_calls {w0 w : World} {g : Nat} {v : Value} {room : Int} {bs : List Int} {safe : Nat} (D : Dk w0 w g v room bs safe) :
    Calls Try.prog 30 #[.pointer (some ⟨g, 0, none⟩)] w fun e w' => e = .returned (.tuple #[]) ∧ Dk w0 w' g v room bs bs.length ∧ Fr w w' g v v := by
  obtain ⟨A', c', hv, hc, hcm⟩ := D.slice
  have c1 := D.c1; have c2 := D.c2; have f2 := D.fz 2
  rw [hv] at c1
  have HS := Lib.hid (D.sync bs.length (Nat.le_refl _))
  clear D hv
  go_enter Try.func30, Try.ntmps30
  go_wp2
  go_end0
  exact ⟨rfl, HS.out⟩
theorem sync_nil (w : World) : Calls Try.prog 30 #[.pointer none] w fun e w' => e = .returned (.tuple #[]) ∧ w = w' := by
  go_enter Try.func30, Try.ntmps30
  go_wp2
  go_end0
  exact ⟨rfl, rfl⟩
theorem bytes_nil (w : World) : Calls Try.prog 12 #[.pointer none] w fun e w' => e = .returned (.slice none 0 0) ∧ w = w' := by
  go_enter Try.func12, Try.ntmps12
  go_wp2
  go_ret
  exact ⟨rfl, rfl⟩

theorem Dk.new {w0 w : World} (room : Int) (hb : Below w0.heap.size w0 w) (h0 : 0 ≤ room) (h1 : room ≤ 1048576) :
    Dk w0 (w.alloc (.cells #[.int .i64 room, .slice none 0 0, .int .i64 0] 51)) w.heap.size (.slice none 0 0) room [] 0 :=
  ⟨hb.alloc hb.size _, hb.size, heap_alloc_new w _, Row.nil _ _ _, h1, by simpa using h0, Nat.le_refl _, fun x hx => by simp at hx⟩
set_option maxHeartbeats 1000000 in
theorem new_ok {w0 w : World} (room : Int) (hb : Below w0.heap.size w0 w) (h0 : 0 ≤ room) (h1 : room ≤ 1048576) :
    Calls Try.prog 9 #[.int .i64 room] w fun e w' => e = .returned (.tuple #[.pointer (some ⟨w.heap.size, 0, none⟩), .int .i64 0]) ∧ Dk w0 w' w.heap.size (.slice none 0 0) room [] 0 ∧ Below w.heap.size w w' := by
  have HN := Lib.hid (Dk.new room hb h0 h1)
  go_enter Try.func9, Try.ntmps9
  go_wp2
  go_ret2
  exact ⟨rfl, HN.out, (Below.refl _ _).alloc (Nat.le_refl _) _⟩
set_option maxHeartbeats 1000000 in
theorem new_bad (w : World) (room : Int) (h : room < 0 ∨ 1048576 < room) :
    Calls Try.prog 9 #[.int .i64 room] w fun e w' => e = .returned (.tuple #[.pointer none, .int .i64 1]) ∧ w = w' := by
  rcases h with h | h
  · go_enter Try.func9, Try.ntmps9
    go_wp2
    go_ret2
    exact ⟨rfl, rfl⟩
  · have h' : ¬ room < 0 := by omega
    go_enter Try.func9, Try.ntmps9
    go_wp2
    go_ret2
    exact ⟨rfl, rfl⟩

theorem zero5 (w : World) : (zeroValue 5).run Try.prog w = .ok (.int .u8 0) w := by kernel_rfl
/-- 'clear(x[m:]); x = x[:m:m]': what each operation comes to. -/
theorem cut_all (ty : TypeId) (w : World) {base : Nat} {v : Value} {xs : List Value} (h : Row w base 5 v xs) (m : Nat) (hm : m ≤ xs.length) :
    ∃ A2 n2 c2 A' w', (∀ W : World, (Instr.slice 23 v (some (.int .i64 m)) none none).run Try.prog W = .ok (.slice A2 n2 c2) W) ∧ ((Builtin.clear_ #[23] ty #[.slice A2 n2 c2]).run Try.prog w = .ok (.tuple #[]) w') ∧
      (∀ W : World, (Instr.slice 23 v none (some (.int .i64 m)) (some (.int .i64 m))).run Try.prog W = .ok (.slice A' m m) W) ∧ Row w' base 5 (.slice A' m m) (xs.take m) ∧ (Value.slice A' m m).ownBlock = v.ownBlock ∧ w.grownBy w' v.ownBlock := by
  obtain ⟨i5, hi5, hz5, hs5, hb5⟩ := info_parts info5
  obtain ⟨A, c, hv, hc, hcm⟩ := h.slice
  subst hv
  obtain ⟨v', h3, hr3, ho3⟩ := run_cut3 (P := Try.prog) w 23 5 Try.underlying23 hi5 h m hm .i64 .i64
  have hfrom := cut_from (P := Try.prog) 23 5 .i64 Try.underlying23 hi5 1 hs5 A xs.length c (m : Int) (by omega) (by omega)
  simp only [Int.toNat_natCast, Nat.mul_one] at hfrom
  have hl : (xs.take m).length = m := by rw [List.length_take]; omega
  have hv' : ∃ A', v' = .slice A' m m := by
    have ha : (A.map fun x => x.add 0) = A := by cases A <;> simp [Addr.add]
    have h1 : (m : Int) ≤ (c : Int) := by omega
    have h4 := h3 w
    simp [Instr.slice, run_underlying Try.underlying23, Instr.sliceBounds, run_sliceBound, h1, sizeOf, typeInfo, hi5, Result.andThen] at h4
    exact ⟨_, h4.symm⟩
  obtain ⟨A', rfl⟩ := hv'
  by_cases hz : xs.length - m = 0
  · rw [hz] at hfrom
    refine ⟨_, _, _, A', w, hfrom, ?_, h3, hr3, ho3, World.grownBy.refl w _⟩
    simp [Builtin.clear_, run_underlying Try.underlying23]
    split <;> simp_all
  · rcases h with ⟨_, rfl⟩ | ⟨g, c', cur, hv, hb, hh, h1, h2, h3', h4⟩
    · simp at hz
    · injection hv with hA hn hcc
      subst hA; subst hcc
      have hcm' : c ≠ m := by omega
      rw [if_neg hcm'] at hfrom
      have e1 : (Option.map (fun x : Addr => x.add m) (some ⟨g, 0, none⟩)) = some ⟨g, m, none⟩ := by simp [add_plain]
      rw [e1] at hfrom
      have hclr := Lib.run_clear_slice (P := Try.prog) w 23 5 ty (.int .u8 0) Try.underlying23 zero5 rfl rfl g m (xs.length - m) (c - m) (by omega)
        (fun j hj => by rw [blk_cell hh, Array.getElem?_eq_getElem (by omega)]; rfl) (fun j _ => blk_frozen hh _)
      obtain ⟨cur', hh', hsz, hcl⟩ := setCells_row (List.replicate (xs.length - m) (.int .u8 0)) m w cur hh (by rw [List.length_replicate]; omega)
      obtain ⟨ho, ht, hou, hs⟩ := setCells_same g (List.replicate (xs.length - m) (.int .u8 0)) m w
      refine ⟨_, _, _, A', _, hfrom, hclr, h3, ?_, ho3, ⟨ho, ht, hou, Nat.le_of_eq hs.symm, fun k _ hk => setCells_far _ _ k (fun e => hk (by rw [e]; rfl))⟩⟩
      rcases hr3 with ⟨hq, hq2⟩ | ⟨g2, c2, cur2, hq, hb2, hh2, k1, k2, k3, k4⟩
      · injection hq with hq1 hq2' _
        subst hq1
        simp [Value.ownBlock] at ho3
      · injection hq with hq1 hq2 hq3
        subst hq1
        obtain rfl : g2 = g := by simpa [Value.ownBlock] using ho3
        refine .inr ⟨g2, m, cur', by rw [hl], hb, hh', by omega, by omega, by omega, ?_⟩
        rw [hl, hcl, List.append_assoc, List.take_append_of_le_length (by simp; omega), List.take_take, Nat.min_self, ← h4, List.take_take, Nat.min_eq_left hm]

section
variable {w0 w w1 : World} {g : Nat} {v v1 : Value} {room : Int} {bs bs1 : List Int} {safe m : Nat}
theorem Dk.blk_grown (D : Dk w0 w g v room bs safe) (hg : w.grownBy w1 v.ownBlock) : w1.heap[g]? = some (.cells #[.int .i64 room, v, .int .i64 safe] 51 (0, 0)) :=
  (hg.block g (Array.getElem?_eq_some_iff.1 D.blk).1 (fun e => (D.ne g e.symm) rfl)).trans D.blk
theorem Dk.put2 (D : Dk w0 w g v room bs safe) (hg : w.grownBy w1 v.ownBlock) (hr : Row w1 w0.heap.size 5 v1 (nums .u8 bs1)) (hfit : (bs1.length : Int) ≤ room) (hsf : m ≤ bs1.length) (hby : ∀ x ∈ bs1, 0 ≤ x ∧ x ≤ 255) (hne : ∀ k, v1.ownBlock = some k → k ≠ g)
    (hat : v1.ownBlock = none ∨ v1.ownBlock = v.ownBlock ∨ ∃ b, v1.ownBlock = some b ∧ w.heap.size ≤ b) :
    Dk w0 ((w1.setCell ⟨g, 1, none⟩ v1).setCell ⟨g, 2, none⟩ (.int .i64 m)) g v1 room bs1 m ∧ Fr w ((w1.setCell ⟨g, 1, none⟩ v1).setCell ⟨g, 2, none⟩ (.int .i64 m)) g v v1 := by
  have hbl : Below w0.heap.size w0 w1 := D.below.grown hg D.below.size (fun k hk => (D.row.lt k hk).1)
  have hb2 := heap_setCell_same w1 g 1 _ 51 v1 (D.blk_grown hg)
  refine ⟨⟨below_set (below_set hbl D.kg) D.kg, D.kg, heap_setCell_same _ g 2 _ 51 (.int .i64 m) hb2, (hr.move fun k hk => set_other _ (hne k hk)).move fun k hk => set_other _ (hne k hk), D.room1, hfit, hsf, hby⟩, ?_, fun k hk hkg hkv => ?_, hat⟩
  · have := hg.size; simpa using this
  · exact (set_other _ hkg).trans ((set_other _ hkg).trans (hg.block k hk hkv))
end
set_option maxRecDepth 100000 in
set_option maxHeartbeats 2000000 in
theorem cut_ok {w0 w : World} {g : Nat} {v : Value} {room : Int} {bs : List Int} {safe : Nat} (D : Dk w0 w g v room bs safe) (n : Nat) (hn : n ≤ bs.length) :
    Calls Try.prog 29 #[.pointer (some ⟨g, 0, none⟩), .int .i64 n] w fun e w' => e = .returned (.int .i64 0) ∧ ∃ v', Dk w0 w' g v' room (bs.take n) (min safe n) ∧ Fr w w' g v v' := by
  have hr1 := D.room1
  have hft := D.fit
  have hsf := D.sf
  obtain ⟨A2, n2, c2, A', w', h1, h2, h3, hrow, hown, hgr⟩ := cut_all 0 w D.row n (by rw [nums_length]; exact hn)
  have hl : (bs.take n).length = n := by rw [List.length_take]; omega
  have hput := D.put2 (bs1 := bs.take n) (m := min safe n) hgr (by unfold nums at hrow ⊢; rw [List.map_take]; exact hrow) (by omega) (by omega) (fun x hx => D.byte x (List.mem_of_mem_take hx)) (fun k hk => D.ne k (hown.symm.trans hk)) (.inr (.inl hown))
  have hb1 := D.blk_grown hgr
  obtain ⟨A, c, hv, hc, hcm⟩ := D.slice
  have a1 := D.c1
  have b1 : w'.cell? ⟨g, 1, none⟩ = some v := blk_cell hb1 1
  have f1 : w'.frozen? ⟨g, 1, none⟩ = false := blk_frozen hb1 1
  have hb2 := heap_setCell_same w' g 1 _ 51 (.slice A' n n) hb1
  have d2 : (w'.setCell ⟨g, 1, none⟩ (.slice A' n n)).cell? ⟨g, 2, none⟩ = some (.int .i64 safe) := blk_cell hb2 2
  have f2 : (w'.setCell ⟨g, 1, none⟩ (.slice A' n n)).frozen? ⟨g, 2, none⟩ = false := blk_frozen hb2 2
  rw [hv] at a1 b1 h1 h3
  have HP := Lib.hid hput
  clear hput hb1 hb2 hrow hown hgr hl hv D
  by_cases hm : n < safe
  · have HM : Hid (min safe n = n) := Lib.hid (by omega)
    go_enter Try.func29, Try.ntmps29
    go_wp2
    go_ret
    rw [HM.out] at HP ⊢
    exact ⟨rfl, _, HP.out⟩
  · have HM : Hid (min safe n = safe) := Lib.hid (by omega)
    go_enter Try.func29, Try.ntmps29
    go_wp2
    go_ret
    rw [HM.out] at HP ⊢
    exact ⟨rfl, _, HP.out⟩
theorem cut_bad {w0 w : World} {g : Nat} {v : Value} {room : Int} {bs : List Int} {safe : Nat} (D : Dk w0 w g v room bs safe) (n : Int) (hn : n < 0 ∨ (bs.length : Int) < n) :
    Calls Try.prog 29 #[.pointer (some ⟨g, 0, none⟩), .int .i64 n] w fun e w' => e = .returned (.int .i64 2) ∧ w = w' := by
  obtain ⟨A, c, hv, hc, hcm⟩ := D.slice
  have a1 := D.c1
  rw [hv] at a1
  clear D hv
  rcases hn with hn | hn
  · go_enter Try.func29, Try.ntmps29
    go_wp2
    go_ret
    exact ⟨rfl, rfl⟩
  · have hn' : ¬ n < 0 := by omega
    go_enter Try.func29, Try.ntmps29
    go_wp2
    go_ret
    exact ⟨rfl, rfl⟩
theorem cut_nil (w : World) (n : Int) : Calls Try.prog 29 #[.pointer none, .int .i64 n] w fun e w' => e = .returned (.int .i64 2) ∧ w = w' := by
  go_enter Try.func29, Try.ntmps29
  go_wp2
  go_ret
  exact ⟨rfl, rfl⟩
theorem made_blk (w : World) (n : Nat) : (w.alloc (.cells (madeCells #[.int .u8 0] n) 5)).heap[w.heap.size]? = some (.cells (List.replicate n (Value.int .u8 0)).toArray 5 (0, 0)) := by
  rw [heap_alloc_new]
  have : madeCells #[Value.int .u8 0] n = (List.replicate n (Value.int .u8 0)).toArray := by
    apply Array.ext'
    apply List.ext_getElem
    · simp [madeCells]
    · intro i h1 h2
      simp [madeCells, Nat.mod_one]
  rw [this]
set_option maxHeartbeats 1000000 in
theorem bytes_calls {w0 w : World} {g : Nat} {v : Value} {room : Int} {bs : List Int} {safe : Nat} (D : Dk w0 w g v room bs safe) :
    Calls Try.prog 12 #[.pointer (some ⟨g, 0, none⟩)] w fun e w' => ∃ gb, e = .returned (.slice (some ⟨gb, 0, none⟩) bs.length bs.length) ∧ Row w' w.heap.size 5 (.slice (some ⟨gb, 0, none⟩) bs.length bs.length) (nums .u8 bs) ∧ Below w.heap.size w w' := by
  obtain ⟨A, c, hv, hc, hcm⟩ := D.slice
  have a1 := D.c1
  have hft := D.fit; have hr1 := D.room1
  obtain ⟨n, hn⟩ : ∃ n, n = bs.length := ⟨_, rfl⟩
  have hb := (Below.refl w.heap.size w).alloc (Nat.le_refl _) (.cells (madeCells #[.int .u8 0] n) 5)
  have D1 := D.step hb
  have b1 := D1.c1
  have hblk := made_blk w n
  have hrow := D1.row
  rw [hv] at a1 b1 hrow
  rw [← hn] at a1 b1 hc hft hrow ⊢
  have hmk := print_make (P := Try.prog) 23 5 .u8 1 Try.underlying23 info5 (by decide) n (by omega)
  have HR := Lib.hid hrow
  have HBk := Lib.hid hblk; have HB := Lib.hid hb; have HN := Lib.hid hn
  clear D D1 hv hrow hblk hb hn
  go_enter Try.func12, Try.ntmps12
  have hcs : ∀ j u, (nums .u8 bs)[j]? = some u → ∃ g', A = some ⟨g', 0, none⟩ ∧ (w.alloc (.cells (madeCells #[.int .u8 0] n) 5)).cell? ⟨g', j, none⟩ = some u ∧ (w.alloc (.cells (madeCells #[.int .u8 0] n) 5)).frozen? ⟨g', j, none⟩ = false := fun j u hu => HR.out.cellAt rfl j u hu
  have hpos : 0 < (nums .u8 bs).length → some (⟨w.heap.size, 0, none⟩ : Addr) = some ⟨w.heap.size, 0, none⟩ ∧ ∃ ad, A = some ad ∧ ∀ j u, (nums .u8 bs)[j]? = some u → (w.alloc (.cells (madeCells #[.int .u8 0] n) 5)).cell? (ad.add j) = some u := fun h0 => by
    obtain ⟨g', hA, _⟩ := hcs 0 _ (List.getElem?_eq_getElem h0)
    refine ⟨rfl, _, hA, fun j u hu => ?_⟩
    obtain ⟨g2, hA2, h2, _⟩ := hcs j u hu
    rw [hA] at hA2; injection hA2 with hA2; injection hA2 with hg2; subst hg2
    rw [add_plain]; exact h2
  have HPos := Lib.hid hpos
  have hln : (nums .u8 bs).length = Nat.min n n := by rw [nums_length, HN.out]; exact (Nat.min_self _).symm
  have HLn := Lib.hid hln
  have hfit : 0 + (nums .u8 bs).length ≤ (List.replicate n (Value.int .u8 0)).length := by rw [nums_length, List.length_replicate, HN.out]; omega
  have HFit := Lib.hid hfit
  clear hcs hpos hln hfit
  go_wp2_with (refine wpList_copy_splice rfl _ _ 23 23 rfl 5 Try.underlying23 (by kernel_rfl) (some ⟨w.heap.size, 0, none⟩) A n n n c rfl rfl w.heap.size 0 (List.replicate n (Value.int .u8 0)) 5 HBk.out (nums .u8 bs) HLn.out HPos.out HFit.out (fun u hu => by simp only [nums, List.mem_map] at hu; obtain ⟨x, _, rfl⟩ := hu; rfl) w.heap.size w HB.out (Nat.le_refl _) ?_; intro w2 hh2 hb2)
  go_ret
  have hn := HN.out
  subst hn
  refine ⟨w.heap.size, rfl, ?_, hb2⟩
  have he : splice (List.replicate bs.length (Value.int .u8 0)) 0 (nums .u8 bs) = nums .u8 bs := by
    simp only [splice, List.take_zero, List.nil_append, nums_length, Nat.zero_add]
    rw [List.drop_eq_nil_of_le (by simp), List.append_nil]
  have hh := hh2.out
  rw [he] at hh
  refine .inr ⟨w.heap.size, bs.length, _, by rw [nums_length], Nat.le_refl _, hh, by rw [nums_length]; exact Nat.le_refl _, by simp [nums_length], by simp [nums_length]; omega, ?_⟩
  simp

end Go.Proofs.Ytdfpcldoakbehaa.DiskM
