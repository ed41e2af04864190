import Derived.Test.YtmphlgihmggoaaaDiskRc
import Derived.Deep.DrawnRows
/- The walk of DiskPlays. -/
namespace Go.Proofs.Ytmphlgihmggoaaa.DiskM
open Go.RowKit Go.Proofs.YtmphlgihmggoaaaW.PrintWords Go.Proofs.YtmphlgihmggoaaaW.PrintLast Go.Proofs.YtmphlgihmggoaaaW.PrintMore Go.Proofs.Ytmphlgihmggoaaa.Row Go.Proofs.Ytmphlgihmggoaaa.Cut
theorem blk_add (a : Addr) (i : Nat) : (a.add i).block = a.block := by unfold Addr.add; split <;> rfl
abbrev deedK : Kd (Int × Int × Int × List Int) := Kd.pair (Kd.int .i64) (Kd.pair (Kd.int .i64) (Kd.pair (Kd.int .i64) (Kd.slice 5 (Kd.int .u8))))
theorem at_deed {w : World} {A : Option Addr} {n : Nat} {l : List (Int × Int × Int × List Int)} (h : deedK.C w A n l) (i : Nat) (hi : i < n) :
    ∃ ad x1 x2 x3 x4 Ai ci, A = some ad ∧ l[i]? = some (x1, x2, x3, x4) ∧ w.cell? (ad.add (i * 4)) = some (.int .i64 x1) ∧ w.cell? (ad.add (i * 4 + 1)) = some (.int .i64 x2) ∧ w.cell? (ad.add (i * 4 + 2)) = some (.int .i64 x3) ∧ w.cell? (ad.add (i * 4 + 3)) = some (.slice Ai x4.length ci) ∧ (Kd.int .u8).C w Ai x4.length x4 := by
  obtain ⟨hl, _, h⟩ := h
  obtain ⟨ad, hA, hc⟩ := h (by omega)
  obtain ⟨x, hx⟩ : ∃ x, l[i]? = some x := ⟨_, List.getElem?_eq_getElem (by omega)⟩
  obtain ⟨cs, _, hk, hat⟩ := hc i x hx
  obtain ⟨x1, x2, x3, x4⟩ := x
  obtain ⟨e0, r0, rfl, h0, e1, r1, rfl, h1, e2, r2, rfl, h2, Ai, ci, h3, _, hC⟩ := hk
  obtain rfl : e0 = [.int .i64 x1] := h0
  obtain rfl : e1 = [.int .i64 x2] := h1
  obtain rfl : e2 = [.int .i64 x3] := h2
  subst h3
  have e : deedK.sz = 4 := rfl
  rw [e] at hat
  exact ⟨ad, x1, x2, x3, x4, Ai, ci, hA, hx, hat 0 _ rfl, hat 1 _ rfl, hat 2 _ rfl, hat 3 _ rfl, hC⟩
/-- A slice that is read and lies apart from what is written. -/
def Rd (w : World) (g gx : Nat) (v : Value) (A : Option Addr) (xs : List Int) : Prop :=
  (Kd.int .u8).C w A xs.length xs ∧ (0 < xs.length → ∃ a, A = some a ∧ a.block < w.heap.size ∧ a.block ≠ g ∧ a.block ≠ gx ∧ some a.block ≠ v.ownBlock)
theorem C_block {w w' : World} {A : Option Addr} {xs : List Int} (h : (Kd.int .u8).C w A xs.length xs) (hb : ∀ a, A = some a → 0 < xs.length → w'.heap[a.block]? = w.heap[a.block]?) : (Kd.int .u8).C w' A xs.length xs := by
  obtain ⟨h1, h2, h3⟩ := h
  refine ⟨h1, h2, fun h0 => ?_⟩
  obtain ⟨a, ha, hc⟩ := h3 h0
  refine ⟨a, ha, fun j p hj => ?_⟩
  obtain ⟨cs, hk, hcs, hat⟩ := hc j p hj
  refine ⟨cs, hk, hcs, fun i u hu => ?_⟩
  rw [← hat i u hu]
  exact World.cell?_of_block (w := w) (by rw [blk_add]; exact hb a ha h0)
/-- After a step of the disk: g and v's block may have turned, v' is v's block or a new one. -/
theorem Rd.disk {w w' : World} {g gx : Nat} {v v' : Value} {A : Option Addr} {xs : List Int} (h : Rd w g gx v A xs) (f : Fr w w' g v v') : Rd w' g gx v' A xs := by
  refine ⟨C_block h.1 fun a ha h0 => ?_, fun h0 => ?_⟩
  · obtain ⟨a', ha', q1, q2, _, q4⟩ := h.2 h0
    rw [ha] at ha'; injection ha' with ha'; subst ha'
    exact f.2.1 _ q1 q2 q4
  · obtain ⟨a, ha, q1, q2, q3, q4⟩ := h.2 h0
    refine ⟨a, ha, by have := f.1; omega, q2, q3, fun e => ?_⟩
    rcases f.2.2 with h | h | ⟨b, h, hb⟩
    · rw [h] at e; cases e
    · exact q4 (by rw [← h]; exact e)
    · rw [h] at e; injection e with e; omega
/-- After a step that leaves all that lay there. -/
theorem Rd.below {w w' : World} {g gx : Nat} {v : Value} {A : Option Addr} {xs : List Int} (h : Rd w g gx v A xs) (hb : Below w.heap.size w w') : Rd w' g gx v A xs := by
  refine ⟨Kd.C_below h.1 hb, fun h0 => ?_⟩
  obtain ⟨a, ha, q1, r⟩ := h.2 h0
  exact ⟨a, ha, by have := hb.size; omega, r⟩
/-- A store into x's own block. -/
theorem Rd.set {w : World} {g gx : Nat} {v : Value} {A : Option Addr} {xs : List Int} (h : Rd w g gx v A xs) (j : Nat) (u : Value) : Rd (w.setCell ⟨gx, j, none⟩ u) g gx v A xs := by
  refine ⟨C_block h.1 fun a ha h0 => ?_, fun h0 => ?_⟩
  · obtain ⟨a', ha', q1, q2, q3, q4⟩ := h.2 h0
    rw [ha] at ha'; injection ha' with ha'; subst ha'
    exact set_other _ q3
  · obtain ⟨a, ha, q1, r⟩ := h.2 h0
    exact ⟨a, ha, by simpa using q1, r⟩
theorem Rd.nil (w : World) (g gx : Nat) (v : Value) (A : Option Addr) : Rd w g gx v A [] := ⟨⟨rfl, by simp, fun h => by simp at h⟩, fun h => by simp at h⟩
theorem Rd.take {w : World} {g gx : Nat} {v : Value} {A : Option Addr} {xs : List Int} (h : Rd w g gx v A xs) (n : Nat) (hn : n ≤ xs.length) : Rd w g gx v A (xs.take n) := by
  exact ⟨Kd.C_take h.1 hn, fun h0 => h.2 (by rw [List.length_take] at h0; omega)⟩
/-- The document's disk, in x's block, beside the disk d. -/
structure Pl (w0 w : World) (g gx : Nat) (v : Value) (room : Int) (A1 : Option Addr) (c1 : Nat) (S : List Int) (A2 : Option Addr) (c2 : Nat) (M : List Int) : Prop where
  dk : Dk w0 w g v room (S ++ M) S.length
  hx : w.heap[gx]? = some (.cells #[.int .i64 room, .slice A1 S.length c1, .slice A2 M.length c2] 38 (0, 0))
  kx : w0.heap.size ≤ gx
  l1 : S.length ≤ c1
  l2 : M.length ≤ c2
  r1 : Rd w g gx v A1 S
  r2 : Rd w g gx v A2 M
theorem Pl.below {w0 w w' : World} {g gx : Nat} {v : Value} {room : Int} {A1 A2 : Option Addr} {c1 c2 : Nat} {S M : List Int} (h : Pl w0 w g gx v room A1 c1 S A2 c2 M) (hb : Below w.heap.size w w') : Pl w0 w' g gx v room A1 c1 S A2 c2 M :=
  ⟨h.dk.step hb, (hb.block _ (Array.getElem?_eq_some_iff.1 h.hx).1).trans h.hx, h.kx, h.l1, h.l2, h.r1.below hb, h.r2.below hb⟩
theorem Pl.y0 {w0 w : World} {g gx : Nat} {v : Value} {room : Int} {A1 A2 : Option Addr} {c1 c2 : Nat} {S M : List Int} (h : Pl w0 w g gx v room A1 c1 S A2 c2 M) : w.cell? ⟨gx, 0, none⟩ = some (.int .i64 room) := blk_cell h.hx 0
theorem Pl.y1 {w0 w : World} {g gx : Nat} {v : Value} {room : Int} {A1 A2 : Option Addr} {c1 c2 : Nat} {S M : List Int} (h : Pl w0 w g gx v room A1 c1 S A2 c2 M) : w.cell? ⟨gx, 1, none⟩ = some (.slice A1 S.length c1) := blk_cell h.hx 1
theorem Pl.y2 {w0 w : World} {g gx : Nat} {v : Value} {room : Int} {A1 A2 : Option Addr} {c1 c2 : Nat} {S M : List Int} (h : Pl w0 w g gx v room A1 c1 S A2 c2 M) : w.cell? ⟨gx, 2, none⟩ = some (.slice A2 M.length c2) := blk_cell h.hx 2
theorem Pl.small {w0 w : World} {g gx : Nat} {v : Value} {room : Int} {A1 A2 : Option Addr} {c1 c2 : Nat} {S M : List Int} (h : Pl w0 w g gx v room A1 c1 S A2 c2 M) : S.length + M.length ≤ 1048576 := by
  have h1 := h.dk.fit; have h2 := h.dk.room1; rw [List.length_append] at h1; omega
/-- The document's bytes. -/
theorem Pl.bytes {w0 w : World} {g gx : Nat} {v : Value} {room : Int} {A1 A2 : Option Addr} {c1 c2 : Nat} {S M : List Int} (h : Pl w0 w g gx v room A1 c1 S A2 c2 M) {Z : ByteArray} (hZ : strOfNums (S ++ M) = Z) :
    Calls Try.prog 23 #[.agg #[.int .i64 room, .slice A1 S.length c1, .slice A2 M.length c2]] w fun e w' => ∃ (A' : Option Addr) (n' c' : Nat), e = .returned (.slice A' n' c') ∧ Below w.heap.size w w' ∧ ∀ W, Below w'.heap.size w' W → (convert 22 9 (.slice A' n' c')).run Try.prog W = .ok (.string Z) W := by
  have hs := h.small
  have hf : PDiskPlays.tidemillref06_Bytes.f room S M = some (S ++ M) := by
    unfold PDiskPlays.tidemillref06_Bytes.f
    rw [Option.bind_some, if_pos (by simp; omega), Option.bind_some, if_pos (by simp; omega), List.nil_append]
  refine (PDiskPlays.tidemillref06_Bytes.calls room A1 c1 S A2 c2 M (S ++ M) w h.r1.1 h.l1 h.r2.1 h.l2 hf).mono ?_
  rintro e w' ⟨v0, rfl, R, B⟩
  obtain ⟨A', c', rfl, _, hC⟩ := Kd.R_reads R
  exact ⟨A', _, c', rfl, B, fun W hW => (Kd.C_string Try.underlying22 Try.underlying5 Try.underlying9 (Kd.C_below hC hW)).trans (by rw [hZ])⟩
theorem bytes_str {w0 w : World} {g : Nat} {v : Value} {room : Int} {bs : List Int} {safe : Nat} (D : Dk w0 w g v room bs safe) {Z : ByteArray} (hZ : strOfNums bs = Z) :
    Calls Try.prog 14 #[.pointer (some ⟨g, 0, none⟩)] w fun e w' => ∃ (A' : Option Addr) (n' c' : Nat), e = .returned (.slice A' n' c') ∧ Below w.heap.size w w' ∧ ∀ W, Below w'.heap.size w' W → (convert 22 9 (.slice A' n' c')).run Try.prog W = .ok (.string Z) W := by
  refine (bytes_calls D).mono ?_
  rintro e w' ⟨gb, rfl, R, B⟩
  exact ⟨_, _, _, rfl, B, fun W hW => (row_str (R.below hW)).trans (by rw [hZ])⟩
/-- Between the disk's step and the document's: the disk holds bs; the document's disk still S, M. -/
structure Md (w0 w : World) (g gx : Nat) (v : Value) (room : Int) (bs : List Int) (safe : Nat) (A1 : Option Addr) (c1 : Nat) (S : List Int) (A2 : Option Addr) (c2 : Nat) (M : List Int) : Prop where
  dk : Dk w0 w g v room bs safe
  hx : w.heap[gx]? = some (.cells #[.int .i64 room, .slice A1 S.length c1, .slice A2 M.length c2] 38 (0, 0))
  kx : w0.heap.size ≤ gx
  l1 : S.length ≤ c1
  l2 : M.length ≤ c2
  r1 : Rd w g gx v A1 S
  r2 : Rd w g gx v A2 M
section
variable {w0 w w' : World} {g gx : Nat} {v v' : Value} {room : Int} {bs bs' : List Int} {safe safe' : Nat} {A1 A2 : Option Addr} {c1 c2 : Nat} {S M : List Int}
theorem Pl.md (h : Pl w0 w g gx v room A1 c1 S A2 c2 M) : Md w0 w g gx v room (S ++ M) S.length A1 c1 S A2 c2 M := ⟨h.dk, h.hx, h.kx, h.l1, h.l2, h.r1, h.r2⟩
theorem Md.ne (h : Md w0 w g gx v room bs safe A1 c1 S A2 c2 M) : gx ≠ g := blk_ne h.hx h.dk.blk (by decide)
theorem Md.nv (h : Md w0 w g gx v room bs safe A1 c1 S A2 c2 M) : some gx ≠ v.ownBlock := fun e => by
  obtain ⟨_, _, cur, hc⟩ := h.dk.row.lt gx e.symm
  exact absurd rfl (blk_ne h.hx hc (by decide))
theorem Md.lt (h : Md w0 w g gx v room bs safe A1 c1 S A2 c2 M) : gx < w.heap.size := (Array.getElem?_eq_some_iff.1 h.hx).1
theorem Md.disk (h : Md w0 w g gx v room bs safe A1 c1 S A2 c2 M) (d : Dk w0 w' g v' room bs' safe') (f : Fr w w' g v v') : Md w0 w' g gx v' room bs' safe' A1 c1 S A2 c2 M :=
  ⟨d, (f.2.1 gx h.lt h.ne h.nv).trans h.hx, h.kx, h.l1, h.l2, h.r1.disk f, h.r2.disk f⟩
theorem Md.below (h : Md w0 w g gx v room bs safe A1 c1 S A2 c2 M) (hb : Below w.heap.size w w') : Md w0 w' g gx v room bs safe A1 c1 S A2 c2 M :=
  ⟨h.dk.step hb, (hb.block _ h.lt).trans h.hx, h.kx, h.l1, h.l2, h.r1.below hb, h.r2.below hb⟩
theorem Md.y0 (h : Md w0 w g gx v room bs safe A1 c1 S A2 c2 M) : w.cell? ⟨gx, 0, none⟩ = some (.int .i64 room) := blk_cell h.hx 0
theorem Md.y1 (h : Md w0 w g gx v room bs safe A1 c1 S A2 c2 M) : w.cell? ⟨gx, 1, none⟩ = some (.slice A1 S.length c1) := blk_cell h.hx 1
theorem Md.y2 (h : Md w0 w g gx v room bs safe A1 c1 S A2 c2 M) : w.cell? ⟨gx, 2, none⟩ = some (.slice A2 M.length c2) := blk_cell h.hx 2
theorem Md.fz (h : Md w0 w g gx v room bs safe A1 c1 S A2 c2 M) (i : Nat) : w.frozen? ⟨gx, i, none⟩ = false := blk_frozen h.hx i
/-- The document's disk is written: its block has the new slices. -/
theorem Md.put {A1' A2' : Option Addr} {c1' c2' : Nat} {S' M' : List Int} (h : Md w0 w g gx v room bs safe A1 c1 S A2 c2 M) (e1 : bs = S' ++ M') (e2 : safe = S'.length) (q1 : S'.length ≤ c1') (q2 : M'.length ≤ c2') (r1 : Rd w g gx v A1' S') (r2 : Rd w g gx v A2' M') :
    Pl w0 (((w.setCell ⟨gx, 0, none⟩ (.int .i64 room)).setCell ⟨gx, 1, none⟩ (.slice A1' S'.length c1')).setCell ⟨gx, 2, none⟩ (.slice A2' M'.length c2')) g gx v room A1' c1' S' A2' c2' M' := by
  subst e1; subst e2
  have hne := h.ne; have hnv := h.nv
  have k : ∀ k, k ≠ gx → (((w.setCell ⟨gx, 0, none⟩ (.int .i64 room)).setCell ⟨gx, 1, none⟩ (.slice A1' S'.length c1')).setCell ⟨gx, 2, none⟩ (.slice A2' M'.length c2')).heap[k]? = w.heap[k]? := fun k hk =>
    (set_other _ hk).trans ((set_other _ hk).trans (set_other _ hk))
  refine ⟨⟨below_set (below_set (below_set h.dk.below h.kx) h.kx) h.kx, h.dk.kg, (k g (Ne.symm hne)).trans h.dk.blk, h.dk.row.move fun j hj => k j (fun e => hnv (by rw [← e]; exact hj.symm)), h.dk.room1, h.dk.fit, h.dk.sf, h.dk.byte⟩,
    put3 h.hx _ _ _, h.kx, q1, q2, ((r1.set 0 _).set 1 _).set 2 _, ((r2.set 0 _).set 1 _).set 2 _⟩
theorem Rd.fresh {base : Nat} {A : Option Addr} {xs : List Int} (hC : (Kd.int .u8).C w A xs.length xs) (hf : 0 < xs.length → ∃ k, A = some ⟨k, 0, none⟩ ∧ base ≤ k ∧ k < w.heap.size) (hg : g < base) (hx : gx < base) (hv : ∀ k, v.ownBlock = some k → k < base) : Rd w g gx v A xs := by
  refine ⟨hC, fun h0 => ?_⟩
  obtain ⟨k, hA, h1, h2⟩ := hf h0
  exact ⟨_, hA, h2, by simp; omega, by simp; omega, fun e => by have := hv k e.symm; omega⟩
theorem Rd.row {base n c : Nat} {A : Option Addr} {xs : List Int} (h : Row w base 5 (.slice A n c) (nums .u8 xs)) (hg : g < base) (hx : gx < base) (hv : ∀ k, v.ownBlock = some k → k < base) : xs.length ≤ c ∧ Rd w g gx v A xs := by
  obtain ⟨A', c', he, hc, hC⟩ := h.reads
  injection he with h1 h2 h3
  subst h1; subst h2; subst h3
  refine ⟨hc, Rd.fresh hC (fun h0 => ?_) hg hx hv⟩
  obtain ⟨k, hA, _, _⟩ := h.cellAt rfl 0 (.int .u8 (xs[0])) (by simp [nums, List.getElem?_eq_getElem h0])
  subst hA
  exact ⟨k, rfl, (h.lt k rfl).1, (h.lt k rfl).2.1⟩
theorem Rd.ofR {base : Nat} {ok : Nat → Prop} {u : Value} {xs : List Int} (h : Kd.R (Kd.int .u8) 5 w base ok u xs) (hg : g < base) (hx : gx < base) (hv : ∀ k, v.ownBlock = some k → k < base) : ∃ A c, u = .slice A xs.length c ∧ xs.length ≤ c ∧ Rd w g gx v A xs := by
  obtain ⟨A, c, rfl, hc, hC⟩ := Kd.R_reads h
  refine ⟨A, c, rfl, hc, Rd.fresh hC (fun h0 => ?_) hg hx hv⟩
  obtain ⟨k, hA, h1, _, h2⟩ := own_row h h0
  exact ⟨k, hA, h1, h2⟩
theorem Md.own (h : Md w0 w g gx v room bs safe A1 c1 S A2 c2 M) (k : Nat) (hk : v.ownBlock = some k) : k < w.heap.size := (h.dk.row.lt k hk).2.1
theorem Md.small (h : Md w0 w g gx v room bs safe A1 c1 S A2 c2 M) (hb : bs.length = S.length + M.length) : S.length + M.length ≤ 1048576 := by
  have h1 := h.dk.fit; have h2 := h.dk.room1; omega
end
attribute [local go_sem ↓] Go.wp_at_zero Go.wp_at_succ
set_option maxHeartbeats 8000000 in
set_option maxRecDepth 100000 in
theorem plays_walk (room : Int) (A : Option Addr) (c : Nat) (l : List (Int × Int × Int × List Int)) (w : World)
    (hK : deedK.C w A l.length l) (hby : ∀ d ∈ l, ∀ x ∈ d.2.2.2, 0 ≤ x ∧ x ≤ 255) (hlen : ∀ d ∈ l, d.2.2.2.length ≤ 140737488351232) :
    Calls Try.prog 6 #[.int .i64 room, .slice A l.length c] w fun e w' => e = .returned (.bool true) ∧ Below w.heap.size w w' := by
  have HK := Lib.hid hK; have HBy := Lib.hid hby; have HLen := Lib.hid hlen
  have hll : l.length ≤ 9223372036854775807 := hK.2.1
  clear hK hby hlen
  go_enter Try.func6, Try.ntmps6
  go_wp2_with fail
  refine (shown_calls w).mono ?_
  rintro e w1 ⟨rfl, B1⟩
  by_cases hbad : room < 0 ∨ 1048576 < room
  · go_wp2_with fail
    refine (new_bad w1 room hbad).mono ?_
    rintro e w2 ⟨rfl, rfl⟩
    have hf : PDiskPlays.tidemillref06_New.f room = some (0, [], [], 1) := by
      unfold PDiskPlays.tidemillref06_New.f
      by_cases h : room < 0
      · rw [if_pos h]
      · rw [if_neg h, if_pos (by omega)]
    go_wp2_with fail
    refine (PDiskPlays.tidemillref06_New.calls room 0 [] [] 1 w1 hf).mono ?_
    rintro e w3 ⟨v1, v2, rfl, R1, R2, B3⟩
    obtain ⟨E1, e1, rfl⟩ := Kd.R_slice R1
    obtain ⟨E2, e2, rfl⟩ := Kd.R_slice R2
    have HB := Lib.hid (below_step B1 B3)
    clear R1 R2 B3 hf
    go_wp2
    go_ret
    exact ⟨rfl, HB.out.alloc HB.out.size _⟩
  · have h0 : 0 ≤ room := by omega
    have h1 : room ≤ 1048576 := by omega
    clear hbad
    go_wp2_with fail
    refine (new_ok (w0 := w) room B1 h0 h1).mono ?_
    rintro e w2 ⟨rfl, D2, B2⟩
    have hf : PDiskPlays.tidemillref06_New.f room = some (room, [], [], 0) := by
      unfold PDiskPlays.tidemillref06_New.f
      rw [if_neg (by omega), if_neg (by omega)]
    generalize w1.heap.size = g at D2
    have HD2 := Lib.hid D2
    clear D2
    go_wp2_with fail
    refine (PDiskPlays.tidemillref06_New.calls room room [] [] 0 w2 hf).mono ?_
    rintro e w3 ⟨v1, v2, rfl, R1, R2, B3⟩
    obtain ⟨E1, e1, rfl⟩ := Kd.R_slice R1
    obtain ⟨E2, e2, rfl⟩ := Kd.R_slice R2
    have D3 := HD2.out.step B3
    have HD3 := Lib.hid D3
    clear D3 hf
    go_wp2_with fail
    have hgx : w.heap.size ≤ w3.heap.size := HD3.out.below.size
    have hx3 := heap_alloc_new w3 (.cells #[.int .i64 room, .slice E1 0 e1, .slice E2 0 e2] 38)
    have P4 : Pl w (w3.alloc (.cells #[.int .i64 room, .slice E1 0 e1, .slice E2 0 e2] 38)) g w3.heap.size (.slice none 0 0) room E1 e1 [] E2 e2 [] :=
      ⟨HD3.out.step ((Below.refl _ _).alloc (Nat.le_refl _) _), hx3, hgx, Nat.zero_le _, Nat.zero_le _, Rd.nil _ _ _ _ _, Rd.nil _ _ _ _ _⟩
    have hne : g ≠ w3.heap.size := by have := HD3.out.lt; omega
    have hgs : w.heap.size ≤ g := HD3.out.kg
    generalize w3.alloc (.cells #[.int .i64 room, .slice E1 0 e1, .slice E2 0 e2] 38) = w4 at *
    generalize w3.heap.size = gx at *
    have HP4 := Lib.hid P4
    clear P4 hx3 HD3 R1 R2 B3 HD2 B2
    go_loopw [10, 11, 12] (fun i _ _ wr => ∃ (k : Nat) (S M : List Int) (v : Value) (A1 A2 : Option Addr) (c1 c2 : Nat), k ≤ l.length ∧ i = .int .i64 k ∧ Pl w wr g gx v room A1 c1 S A2 c2 M) (fun i _ _ _ => l.length - (intOf i).toNat)
    case atStart => exact ⟨0, [], [], _, _, _, _, _, Nat.zero_le _, rfl, HP4.out⟩
    case round =>
      obtain ⟨k, S, M, v, A1, A2, c1, c2, hk, rfl, hp⟩ := hrel
      have HP := Lib.hid hp
      clear hp
      by_cases hlt : k < l.length ∧ k < 100
      · obtain ⟨hk1, hk2⟩ := hlt
        obtain ⟨ad, x1, x2, x3, x4, Ai, ci, hA, hli, d1, d2, d3, d4, hC⟩ := at_deed HK.out k hk1
        subst hA
        have HC := Lib.hid hC; have HD1 := Lib.hid d1; have HD2 := Lib.hid d2; have HD3 := Lib.hid d3; have HD4 := Lib.hid d4
        clear hC d1 d2 d3 d4
        have hki : ((k : Nat) : Int) < (l.length : Int) := by omega
        have hk2i : ((k : Nat) : Int) < 100 := by omega
        have f2 : ad.add (k * 4 + 1) = ⟨(ad.add (k * 4)).block, (ad.add (k * 4)).off + 1, none⟩ := by rw [← Addr.add_add]; rfl
        have f3 : ad.add (k * 4 + 2) = ⟨(ad.add (k * 4)).block, (ad.add (k * 4)).off + 2, none⟩ := by rw [← Addr.add_add]; rfl
        have f4 : ad.add (k * 4 + 3) = ⟨(ad.add (k * 4)).block, (ad.add (k * 4)).off + 3, none⟩ := by rw [← Addr.add_add]; rfl
        rw [f2] at HD2; rw [f3] at HD3; rw [f4] at HD4
        clear f2 f3 f4
        have cl1 := pw_cell_below HP.out.dk.below HD1.out
        have hx4 := HBy.out _ (List.mem_of_getElem? hli)
        have hn4 := HLen.out _ (List.mem_of_getElem? hli)
        have HX4 := Lib.hid hx4
        clear hx4 hli
        go_upto_block 2 with fail
        go_cut [11, 12] (fun f x wx => ∃ (e : Int) (S' M' : List Int) (v' : Value) (A1' A2' : Option Addr) (c1' c2' : Nat), f = .int .i64 e ∧ x = .int .i64 e ∧ Pl w wx g gx v' room A1' c1' S' A2' c2' M')
        case first =>
          have cl2 := pw_cell_below HP.out.dk.below HD2.out
          have cl3 := pw_cell_below HP.out.dk.below HD3.out
          have cl4 := pw_cell_below HP.out.dk.below HD4.out
          have M0 := HP.out.md
          have HM := Lib.hid M0
          have hsm := HP.out.small
          have hbl : ((S ++ M).length : Int) = (S.length : Int) + (M.length : Int) := by rw [List.length_append]; omega
          have hrm := HP.out.dk.room1
          have hC' := Kd.C_below HC.out HP.out.dk.below
          have HC' := Lib.hid hC'; have HBL := Lib.hid hbl
          have HMB := Lib.hid (show ∀ x ∈ M, 0 ≤ x ∧ x ≤ 255 from fun x hx => HP.out.dk.byte x (List.mem_append_right _ hx))
          clear M0 hbl hC'
          by_cases k0 : x1 = 0
          · subst k0
            by_cases hfit : (x4.length : Int) ≤ room - (S ++ M).length
            · have HF := Lib.hid hfit
              clear hfit
              go_wp2_with fail
              refine (append_ok HM.out.dk Ai ci x4 HC'.out HX4.out HF.out).mono ?_
              rintro e w1 ⟨rfl, v1, D1, F1⟩
              have HMd := Lib.hid (HM.out.disk D1 F1)
              have HMe := Lib.hid (HMd.out.below (Below.refl _ _).drew)
              have HC1 := Lib.hid (Kd.C_below HC.out HMe.out.dk.below)
              have cl4' := pw_cell_below HMd.out.dk.below HD4.out
              have y0 := HMd.out.y0; have y1 := HMd.out.y1; have y2 := HMd.out.y2
              clear D1 F1 cl1 cl2 cl3 cl4
              go_wp2_with fail
              go_region_with (first
                | (go_at_call 17; refine (rappend_ok _ room A1 c1 S A2 c2 M Ai ci x4 HMe.out.r1.1 HMe.out.r2.1 HC1.out (by omega) (by omega) hrm (by have := HF.out; have := HBL.out; omega)).mono ?_; rintro e w2 ⟨A', c', rfl, R2, B2⟩; have HM2 := Lib.hid (HMe.out.below B2); have z0 := HM2.out.y0; have z1 := HM2.out.y1; have z2 := HM2.out.y2; have zf0 := HM2.out.fz 0; have zf1 := HM2.out.fz 1; have zf2 := HM2.out.fz 2; have HB2 := Lib.hid B2; have HR2 := Lib.hid R2; have cl4'' := pw_cell_below (below_step (Below.refl _ _).drew B2) cl4'; clear R2 B2))
              all_goals
                go_wp2
                go_meet
                case rel =>
                  obtain ⟨q, r⟩ := Rd.row HR2.out HMe.out.dk.lt HMe.out.lt HMe.out.own
                  have hq := HM2.out.put (List.append_assoc ..) rfl HM2.out.l1 q HM2.out.r1 r
                  simp only [List.length_append] at hq
                  exact ⟨0, S, M ++ x4, v1, A1, A', c1, c', rfl, rfl, hq⟩
            · have HF := Lib.hid hfit
              clear hfit
              go_wp2_with fail
              refine (append_full HM.out.dk Ai ci x4.length (by omega) (by have := HF.out; omega)).mono ?_
              rintro e w1 ⟨rfl, hd⟩
              have HMd := Lib.hid (HM.out.below hd.below)
              have HMe := Lib.hid (HMd.out.below (Below.refl _ _).drew)
              have cl4' := pw_cell_below HMd.out.dk.below HD4.out
              have y0 := HMd.out.y0; have y1 := HMd.out.y1; have y2 := HMd.out.y2
              clear hd cl1 cl2 cl3 cl4
              go_wp2_with fail
              go_region_with (first
                | (go_at_call 17; refine (rappend_full _ room A1 c1 S A2 c2 M Ai ci x4 (by omega) (by omega) hn4 (by have := HF.out; have := HBL.out; omega)).mono ?_; rintro e w2 ⟨rfl, B2⟩; have HM2 := Lib.hid (HMe.out.below B2); have z0 := HM2.out.y0; have z1 := HM2.out.y1; have z2 := HM2.out.y2; have zf0 := HM2.out.fz 0; have zf1 := HM2.out.fz 1; have zf2 := HM2.out.fz 2; have HB2 := Lib.hid B2; have cl4'' := pw_cell_below (below_step (Below.refl _ _).drew B2) cl4'; clear B2))
              all_goals
                go_wp2
                go_meet
                case rel => exact ⟨3, S, M, v, A1, A2, c1, c2, rfl, rfl, HM2.out.put rfl rfl HM2.out.l1 HM2.out.l2 HM2.out.r1 HM2.out.r2⟩
          · by_cases k1 : x1 = 1
            · subst k1
              clear k0
              go_wp2_with fail
              refine (sync_calls HM.out.dk).mono ?_
              rintro e w1 ⟨rfl, D1, F1⟩
              have HMd := Lib.hid (HM.out.disk D1 F1)
              have y0 := HMd.out.y0; have y1 := HMd.out.y1; have y2 := HMd.out.y2
              clear D1 F1 cl1 cl2 cl3 cl4
              have hf : PDiskPlays.tidemillref06_Sync.f room S M = some (room, S ++ M, []) := by
                unfold PDiskPlays.tidemillref06_Sync.f PDiskPlays.tidemillref06_Bytes.f
                rw [Option.bind_some, if_pos (by simp; omega), Option.bind_some, if_pos (by simp; omega), List.nil_append]; rfl
              have HFF := Lib.hid hf
              clear hf
              go_wp2_with fail
              refine (PDiskPlays.tidemillref06_Sync.calls room A1 c1 S A2 c2 M room (S ++ M) [] _ HMd.out.r1.1 HMd.out.l1 HMd.out.r2.1 HMd.out.l2 HFF.out).mono ?_
              rintro e w2 ⟨u1, u2, rfl, R1, R2, B2⟩
              have HM2 := Lib.hid (HMd.out.below B2)
              obtain ⟨P1, q1, rfl, hq1, hr1⟩ := Rd.ofR (g := g) (gx := gx) (v := v) R1 HMd.out.dk.lt HMd.out.lt HMd.out.own
              obtain ⟨P2, q2, rfl, hq2, hr2⟩ := Rd.ofR (g := g) (gx := gx) (v := v) R2 HMd.out.dk.lt HMd.out.lt HMd.out.own
              have hq3 := HM2.out.put (List.append_nil _).symm rfl hq1 hq2 hr1 hr2
              simp only [List.length_append] at hq3
              have HP3 := Lib.hid hq3
              clear hq3
              have z0 := HM2.out.y0; have z1 := HM2.out.y1; have z2 := HM2.out.y2; have zf0 := HM2.out.fz 0; have zf1 := HM2.out.fz 1; have zf2 := HM2.out.fz 2
              clear R1 R2 B2 hr1 hr2
              go_wp2_with fail
              go_meet
              case rel => exact ⟨0, S ++ M, [], v, P1, P2, q1, q2, rfl, rfl, HP3.out⟩
            · by_cases k2 : x1 = 2
              · subst k2
                clear k0 k1
                by_cases hok : 0 ≤ x2 ∧ x2 ≤ ((S ++ M).length : Int)
                · obtain ⟨h0, hle⟩ := hok
                  obtain ⟨n, rfl⟩ := Int.eq_ofNat_of_zero_le h0
                  have HLE := Lib.hid (show n ≤ (S ++ M).length by omega)
                  have hnb : n ≤ S.length + M.length := by have := HBL.out; omega
                  clear h0 hle
                  go_wp2_with fail
                  refine (cut_ok HM.out.dk n HLE.out).mono ?_
                  rintro e w1 ⟨rfl, v1, D1, F1⟩
                  have HMd := Lib.hid (HM.out.disk D1 F1)
                  have HMe := Lib.hid (HMd.out.below (Below.refl _ _).drew)
                  have cl2' := pw_cell_below HMd.out.dk.below HD2.out
                  have y0 := HMd.out.y0; have y1 := HMd.out.y1; have y2 := HMd.out.y2
                  clear D1 F1 cl1 cl2 cl3 cl4
                  go_wp2_with fail
                  by_cases hS : n ≤ S.length
                  · have e1 : (S ++ M).take n = S.take n ++ [] := by rw [List.take_append_of_le_length hS, List.append_nil]
                    have e2 : min S.length n = (S.take n).length := by rw [List.length_take]; omega
                    have HE := Lib.hid (And.intro e1 e2)
                    clear e1 e2
                    go_region_with (first
                      | (go_at_call 20; refine (rcut_head _ room A1 c1 S A2 c2 M n HMe.out.l1 HMe.out.r1.1 (by omega) (by omega) hS).mono ?_; rintro e w2 ⟨rfl, B2⟩; have HM2 := Lib.hid (HMe.out.below B2); have z0 := HM2.out.y0; have z1 := HM2.out.y1; have z2 := HM2.out.y2; have zf0 := HM2.out.fz 0; have zf1 := HM2.out.fz 1; have zf2 := HM2.out.fz 2; have HB2 := Lib.hid B2; have cl2'' := pw_cell_below (below_step (Below.refl _ _).drew B2) cl2'; clear B2))
                    all_goals
                      go_wp2
                      go_meet
                      case rel =>
                        have el : (S.take n).length = n := by rw [List.length_take]; omega
                        have hl1 : (S.take n).length ≤ c1 := by rw [el]; have := HM2.out.l1; omega
                        have hq := HM2.out.put (M' := []) (A2' := none) (c2' := 0) HE.out.1 HE.out.2 hl1 (Nat.zero_le _) (HM2.out.r1.take n hS) (Rd.nil _ _ _ _ _)
                        rw [el] at hq
                        exact ⟨0, S.take n, [], v1, A1, none, c1, 0, rfl, rfl, hq⟩
                  · have hS' : S.length < n := by omega
                    have e1 : (S ++ M).take n = S ++ M.take (n - S.length) := by rw [List.take_append, List.take_of_length_le (by omega)]
                    have e2 : min S.length n = S.length := by omega
                    have HE := Lib.hid (And.intro e1 e2)
                    clear e1 e2
                    go_region_with (first
                      | (go_at_call 20; refine (rcut_tail _ room A1 c1 S A2 c2 M n HMe.out.l2 HMe.out.r2.1 (by omega) (by omega) hS' hnb).mono ?_; rintro e w2 ⟨rfl, B2⟩; have HM2 := Lib.hid (HMe.out.below B2); have z0 := HM2.out.y0; have z1 := HM2.out.y1; have z2 := HM2.out.y2; have zf0 := HM2.out.fz 0; have zf1 := HM2.out.fz 1; have zf2 := HM2.out.fz 2; have HB2 := Lib.hid B2; have cl2'' := pw_cell_below (below_step (Below.refl _ _).drew B2) cl2'; clear B2))
                    all_goals
                      go_wp2
                      go_meet
                      case rel =>
                        have el : (M.take (n - S.length)).length = n - S.length := by rw [List.length_take]; omega
                        have hl2 : (M.take (n - S.length)).length ≤ c2 := by have := HM2.out.l2; rw [List.length_take]; omega
                        have hq := HM2.out.put HE.out.1 HE.out.2 HM2.out.l1 hl2 HM2.out.r1 (HM2.out.r2.take _ (by omega))
                        first | exact ⟨0, S, M.take (n - S.length), v1, A1, A2, c1, c2, rfl, rfl, hq⟩ | (rw [el] at hq; exact ⟨0, S, M.take (n - S.length), v1, A1, A2, c1, c2, rfl, rfl, hq⟩) | (rw [List.length_take] at hq; exact ⟨0, S, M.take (n - S.length), v1, A1, A2, c1, c2, rfl, rfl, hq⟩)
                · have hbad : x2 < 0 ∨ ((S ++ M).length : Int) < x2 := by omega
                  have HBad := Lib.hid hbad
                  clear hbad hok
                  go_wp2_with fail
                  refine (cut_bad HM.out.dk x2 HBad.out).mono ?_
                  rintro e w1 ⟨rfl, rfl⟩
                  have HMe := Lib.hid (HM.out.below (Below.refl _ _).drew)
                  have HMd := HM
                  have y0 := HMd.out.y0; have y1 := HMd.out.y1; have y2 := HMd.out.y2
                  go_wp2_with fail
                  go_region_with (first
                    | (go_at_call 20; refine (rcut_bad _ room A1 c1 S A2 c2 M x2 (by omega) (by omega) (by have := HBad.out; have := HBL.out; omega)).mono ?_; rintro e w2 ⟨rfl, B2⟩; have HM2 := Lib.hid (HMe.out.below B2); have z0 := HM2.out.y0; have z1 := HM2.out.y1; have z2 := HM2.out.y2; have zf0 := HM2.out.fz 0; have zf1 := HM2.out.fz 1; have zf2 := HM2.out.fz 2; have HB2 := Lib.hid B2; have cl2'' := pw_cell_below (below_step (Below.refl _ _).drew B2) cl2; clear B2))
                  all_goals
                    go_wp2
                    go_meet
                    case rel => exact ⟨2, S, M, v, A1, A2, c1, c2, rfl, rfl, HM2.out.put rfl rfl HM2.out.l1 HM2.out.l2 HM2.out.r1 HM2.out.r2⟩
              · by_cases k3 : x1 = 3
                · subst k3
                  clear k0 k1 k2
                  have HMq := Lib.hid (HM.out.below (Below.refl _ _).drew)
                  have HCS := Lib.hid (crash_split S M x2 x3)
                  go_upto_region 26 with fail
                  go_cut [116] (fun _ wx => ∃ v1, Md w wx g gx v1 room (S ++ crashM M 0 x2 x3) (S ++ crashM M 0 x2 x3).length A1 c1 S A2 c2 M)
                  case first =>
                    go_region_with (first
                      | (go_at_call 13; refine (crash_calls HMq.out.dk x2 x3).mono ?_; rintro e w1 ⟨rfl, v1, D1, F1⟩; rw [HCS.out] at D1; have HMd := Lib.hid (HMq.out.disk D1 F1); have cl2' := pw_cell_below HMd.out.dk.below HD2.out; have cl3' := pw_cell_below HMd.out.dk.below HD3.out; clear D1 F1))
                    all_goals
                      go_wp2
                      go_meet
                      case rel => exact ⟨_, HMd.out⟩
                  case rest =>
                    obtain ⟨v1, hmd⟩ := hcut
                    have HMd := Lib.hid hmd
                    have HMe := Lib.hid (HMd.out.below (Below.refl _ _).drew)
                    have cl2' := pw_cell_below HMd.out.dk.below HD2.out
                    have cl3' := pw_cell_below HMd.out.dk.below HD3.out
                    have y0 := HMd.out.y0; have y1 := HMd.out.y1; have y2 := HMd.out.y2
                    clear hmd cl1 cl2 cl3 cl4
                    go_upto_region 27 with fail
                    go_region_with (first
                      | (go_at_call 21; refine (rcrash_calls _ room A1 c1 S A2 c2 M x2 x3 HMe.out.l1 HMe.out.l2 HMe.out.r1.1 HMe.out.r2.1 (by omega) (by omega) HMB.out).mono ?_; rintro e w2 ⟨u1, u2, rfl, R1, R2, B2⟩; have HM2 := Lib.hid (HMe.out.below B2); have z0 := HM2.out.y0; have z1 := HM2.out.y1; have z2 := HM2.out.y2; have zf0 := HM2.out.fz 0; have zf1 := HM2.out.fz 1; have zf2 := HM2.out.fz 2; have HB2 := Lib.hid B2; have cl2'' := pw_cell_below (below_step (Below.refl _ _).drew B2) cl2'; have cl3'' := pw_cell_below (below_step (Below.refl _ _).drew B2) cl3'; obtain ⟨P1, q1, rfl, hq1, hr1⟩ := Rd.ofR (g := g) (gx := gx) (v := v1) R1 HMe.out.dk.lt HMe.out.lt HMe.out.own; obtain ⟨P2, q2, rfl, hq2, hr2⟩ := Rd.ofR (g := g) (gx := gx) (v := v1) R2 HMe.out.dk.lt HMe.out.lt HMe.out.own; have HR1 := Lib.hid hr1; have HR2 := Lib.hid hr2; clear R1 R2 B2 hr1 hr2))
                    all_goals
                      go_wp2
                      go_meet
                      case rel =>
                        have hq := HM2.out.put (List.append_nil _).symm rfl hq1 hq2 HR1.out HR2.out
                        simp only [List.length_append] at hq
                        exact ⟨0, S ++ crashM M 0 x2 x3, [], v1, P1, P2, q1, q2, rfl, rfl, hq⟩
                · have b0 : (x1 == 0) = false := beq_eq_false_iff_ne.2 k0
                  have b1 : (x1 == 1) = false := beq_eq_false_iff_ne.2 k1
                  have b2 : (x1 == 2) = false := beq_eq_false_iff_ne.2 k2
                  have b3 : (x1 == 3) = false := beq_eq_false_iff_ne.2 k3
                  clear k0 k1 k2 k3
                  go_wp2_with fail
                  refine (lose_calls HM.out.dk).mono ?_
                  rintro e w1 ⟨rfl, v1, D1, F1⟩
                  have HMd := Lib.hid (HM.out.disk D1 F1)
                  have y0 := HMd.out.y0; have y1 := HMd.out.y1; have y2 := HMd.out.y2
                  clear D1 F1 cl1 cl2 cl3 cl4
                  go_wp2_with fail
                  refine (rcut_head _ room A1 c1 S A2 c2 M 0 HMd.out.l1 HMd.out.r1.1 (by omega) (by omega) (Nat.zero_le _)).mono ?_
                  rintro e w2 ⟨rfl, B2⟩
                  have HM2 := Lib.hid (HMd.out.below B2)
                  have HP3 := Lib.hid (HM2.out.put (S' := []) (M' := []) (A1' := A1) (A2' := none) (c1' := c1) (c2' := 0) rfl rfl (Nat.zero_le _) (Nat.zero_le _) (Rd.nil _ _ _ _ _) (Rd.nil _ _ _ _ _))
                  have z0 := HM2.out.y0; have z1 := HM2.out.y1; have z2 := HM2.out.y2; have zf0 := HM2.out.fz 0; have zf1 := HM2.out.fz 1; have zf2 := HM2.out.fz 2
                  clear B2
                  go_wp2_with fail
                  go_meet
                  case rel => exact ⟨0, [], [], v1, A1, none, c1, 0, rfl, rfl, HP3.out⟩
        case rest =>
          obtain ⟨e, S', M', v', A1', A2', c1', c2', rfl, rfl, hp⟩ := hcut
          have HP' := Lib.hid hp
          clear hp
          obtain ⟨Z, hZ⟩ : ∃ Z, strOfNums (S' ++ M') = Z := ⟨_, rfl⟩
          have HZ := Lib.hid hZ
          clear hZ
          go_upto_region 28 with fail
          go_cut [148] (fun t wx => t = .bool false ∧ Below wc.heap.size wc wx)
          case first =>
            have HPc := Lib.hid (HP'.out.below (Below.refl wc.heap.size wc).drew)
            have y0 := HP'.out.y0; have y1 := HP'.out.y1; have y2 := HP'.out.y2
            go_region_with (first
              | (go_at_call 14; refine (bytes_str HPc.out.dk HZ.out).mono ?_; rintro e w11 ⟨Ab, nb, cb, rfl, Bb, cvb⟩; have HPb := Lib.hid (HPc.out.below Bb); have cb1 := cvb _ (Below.refl _ _); have HCvb := Lib.hid cvb; have yb0 := HPb.out.y0; have yb1 := HPb.out.y1; have yb2 := HPb.out.y2; have HBb := Lib.hid Bb; clear cvb Bb)
              | (go_at_call 23; refine (HPb.out.bytes HZ.out).mono ?_; rintro e w12 ⟨Ax, nx, cx, rfl, Bx, cvx⟩; have HPx := Lib.hid (HPb.out.below Bx); have cx1 := cvx _ (Below.refl _ _); have cx2 := HCvb.out _ Bx; have yx0 := HPx.out.y0; have yx1 := HPx.out.y1; have yx2 := HPx.out.y2; have HBx := Lib.hid (below_step HBb.out Bx); clear cvx Bx)
              | (go_at_call 15; refine (safe_calls HPx.out.dk).mono ?_; rintro e w13 ⟨rfl, rfl⟩))
            all_goals
              go_wp2
              go_meet
              case rel => exact ⟨rfl, below_step (Below.refl _ _).drew HBx.out⟩
          case rest =>
            obtain ⟨rfl, hB⟩ := hcut
            have HPe := Lib.hid (HP'.out.below hB)
            clear hB
            go_wp2
            go_roundw
            case rel => exact ⟨k + 1, S', M', v', A1', A2', c1', c2', by omega, by go_num, HPe.out⟩
            case measure => simp [intOf]; omega
      · by_cases hk1 : k < l.length
        · have hk2 : ¬ k < 100 := fun h => hlt ⟨hk1, h⟩
          have hki : ((k : Nat) : Int) < (l.length : Int) := by omega
          have hk2i : 100 ≤ ((k : Nat) : Int) := by omega
          clear hlt
          go_wp2
          go_ret
          exact ⟨rfl, HP.out.dk.below⟩
        · have hki : (l.length : Int) ≤ ((k : Nat) : Int) := by omega
          clear hlt
          go_wp2
          go_ret
          exact ⟨rfl, HP.out.dk.below⟩
end Go.Proofs.Ytmphlgihmggoaaa.DiskM
