import Derived.Test.YtiinelmednbpmaaGreatLCrash
import Derived.Test.YtiinelmednbpmaaGreatLStayP
import Derived.Test.YtiinelmednbpmaaGreatLMinor
/- What SlogStays wants beside: begins, a node out of range, deeds. -/
namespace Go.Proofs.YtiinelmednbpmaaGreat.Slog
open Go.RowKit Go.Maps Go.Proofs.YtiinelmednbpmaaGreatW.PrintWords Go.Proofs.YtiinelmednbpmaaGreatW.PrintMore Go.Proofs.YtiinelmednbpmaaGreat.Row Go.Proofs.YtiinelmednbpmaaGreat.Cut Go.Proofs.YtiinelmednbpmaaGreat.DiskM Go.Proofs.YtiinelmednbpmaaGreat.Quor Go.Proofs.YtiinelmednbpmaaGreat.Slot
open Go.Proofs.YtiinelmednbpmaaGreat.Crc (KB sameB lists_calls)
abbrev L6 : Type := Int × Int × Int × Int × List Int × List Bool
abbrev ldeedK : Kd L6 := Kd.pair (Kd.int .i64) (Kd.pair (Kd.int .i64) (Kd.pair (Kd.int .i64) (Kd.pair (Kd.int .i64) (Kd.pair (Kd.slice 5 (Kd.int .u8)) (Kd.slice 4 Kd.bool)))))
theorem at_ldeed {w : World} {A : Option Addr} {n : Nat} {l : List L6} (h : ldeedK.C w A n l) (i : Nat) (hi : i < n) :
    ∃ ad x1 x2 x3 x4 x5 x6 Ai ci Aj cj, A = some ad ∧ l[i]? = some (x1, x2, x3, x4, x5, x6) ∧ w.cell? (ad.add (i * 6)) = some (.int .i64 x1) ∧ w.cell? ⟨(ad.add (i * 6)).block, (ad.add (i * 6)).off + 1, none⟩ = some (.int .i64 x2) ∧ w.cell? ⟨(ad.add (i * 6)).block, (ad.add (i * 6)).off + 2, none⟩ = some (.int .i64 x3) ∧ w.cell? ⟨(ad.add (i * 6)).block, (ad.add (i * 6)).off + 3, none⟩ = some (.int .i64 x4) ∧ w.cell? ⟨(ad.add (i * 6)).block, (ad.add (i * 6)).off + 4, none⟩ = some (.slice Ai x5.length ci) ∧ w.cell? ⟨(ad.add (i * 6)).block, (ad.add (i * 6)).off + 5, none⟩ = some (.slice Aj x6.length cj) ∧ x5.length ≤ ci ∧ (Kd.int .u8).C w Ai x5.length x5 ∧ Kd.bool.C w Aj x6.length x6 := by
  obtain ⟨hl, _, h⟩ := h
  obtain ⟨ad, hA, hc⟩ := h (by omega)
  obtain ⟨x, hx⟩ : ∃ x, l[i]? = some x := ⟨_, List.getElem?_eq_getElem (by omega)⟩
  obtain ⟨cs, _, hk, hat⟩ := hc i x hx
  obtain ⟨x1, x2, x3, x4, x5, x6⟩ := x
  obtain ⟨e0, r0, rfl, h0, e1, r1, rfl, h1, e2, r2, rfl, h2, e3, r3, rfl, h3, e4, r4, rfl, ⟨Ai, ci, h4, hci, hC⟩, Aj, cj, h5, hcj, hC'⟩ := hk
  obtain rfl : e0 = [.int .i64 x1] := h0
  obtain rfl : e1 = [.int .i64 x2] := h1
  obtain rfl : e2 = [.int .i64 x3] := h2
  obtain rfl : e3 = [.int .i64 x4] := h3
  obtain rfl : e4 = [.slice Ai x5.length ci] := h4
  obtain rfl : r4 = [.slice Aj x6.length cj] := h5
  have e : ldeedK.sz = 6 := rfl
  rw [e] at hat
  have f (j : Nat) : ad.add (i * 6 + (j + 1)) = ⟨(ad.add (i * 6)).block, (ad.add (i * 6)).off + (j + 1), none⟩ := by rw [← Addr.add_add]; rfl
  refine ⟨ad, x1, x2, x3, x4, x5, x6, Ai, ci, Aj, cj, hA, hx, hat 0 _ rfl, ?_, ?_, ?_, ?_, ?_, hci, hC, hC'⟩
  · rw [← f 0]; exact hat 1 _ rfl
  · rw [← f 1]; exact hat 2 _ rfl
  · rw [← f 2]; exact hat 3 _ rfl
  · rw [← f 3]; exact hat 4 _ rfl
  · rw [← f 4]; exact hat 5 _ rfl
set_option maxHeartbeats 1000000 in
theorem begins_calls (A0 : Option Addr) (c0 : Nat) (l0 : List (List Int)) (A1 : Option Addr) (c1 : Nat) (l1 : List (List Int)) (w : World) (h0 : KB.C w A0 l0.length l0) (h1 : KB.C w A1 l1.length l1) (hc : l0.length ≤ c0) (hl : l1.length ≤ l0.length) (ht : l0.take l1.length = l1) :
    Calls Tryz.prog 17 #[.slice A0 l0.length c0, .slice A1 l1.length c1] w fun e w' => e = .returned (.bool true) ∧ Below w.heap.size w w' := by
  have hC := Kd.C_take h0 hl
  rw [ht] at hC
  have hls : ∀ q, Calls Tryz.prog 13 #[.slice A0 l1.length c0, .slice A1 l1.length c1] (w.drewN q) fun e w' => e = .returned (.bool true) ∧ Drawn0 (w.drewN q) w' := fun q => by
    have := lists_calls A0 c0 l1 A1 c1 l1 (w.drewN q) (Kd.C_below hC (pw_below_drewN (Below.refl _ _) q)) (Kd.C_below h1 (pw_below_drewN (Below.refl _ _) q))
    rwa [same_refl] at this
  have HLS := Lib.hid hls
  have hl0 : l0.length ≤ 9223372036854775807 := h0.2.1
  clear h0 h1 hC ht hls
  generalize l0.length = n0 at *
  generalize l1.length = n1 at *
  have hli : (n1 : Int) ≤ (n0 : Int) := by omega
  have hci : (n1 : Int) ≤ (c0 : Int) := by omega
  have hn0 : (0 : Int) ≤ (n1 : Int) := by omega
  go_enter Tryz.func17, Tryz.ntmps17
  go_wp2_with fail
  refine (HLS.out 0).mono ?_
  rintro e w' ⟨rfl, hd⟩
  have HD := Lib.hid hd.below
  clear hd HLS
  go_wp2_with fail
  go_ret
  exact ⟨rfl, HD.out⟩
set_option maxHeartbeats 1000000 in
/-- A node that is not there. -/
theorem again_bad {w0 w : World} {x : LB} {room : Int} {s : LS} (L : Lg w0 w x room s) (i : Int) (hi : i < 0 ∨ (x.ns.length : Int) ≤ i) (f : Value) :
    Calls Tryz.prog 33 #[.pointer (some ⟨x.lg, 0, none⟩), .int .i64 i, f] w fun e w' => e = .returned (.int .i64 1) ∧ w = w' := by
  obtain ⟨An, cn, hvn, _, _⟩ := L.nd.slice
  rw [List.length_map] at hvn
  have c1 := L.cells.2.1
  rw [hvn] at c1
  generalize x.ns.length = m at *
  clear L hvn
  go_enter Tryz.func33, Tryz.ntmps33
  by_cases h0 : i < 0
  · go_wp2_with fail
    go_ret
    exact ⟨rfl, rfl⟩
  · have h1 : (m : Int) ≤ i := by omega
    have h2 : 0 ≤ i := by omega
    clear hi
    go_wp2_with fail
    go_ret
    exact ⟨rfl, rfl⟩
set_option maxHeartbeats 4000000 in
theorem lcrash_bad {w0 w : World} {x : LB} {room : Int} {s : LS} (L : Lg w0 w x room s) (i : Int) (hi : i < 0 ∨ (x.ns.length : Int) ≤ i) (keep turn : Int) :
    Calls Tryz.prog 18 #[.pointer (some ⟨x.lg, 0, none⟩), .int .i64 i, .int .i64 keep, .int .i64 turn] w (AnyP w0 w x room s 1) := by
  obtain ⟨w2, hw2⟩ : ∃ w2, w2 = (w.alloc (.cells #[.int .i64 keep] 3)).alloc (.cells #[.int .i64 turn] 3) := ⟨_, rfl⟩
  have hb : Below w.heap.size w w2 := by rw [hw2]; exact ((Below.refl _ _).alloc (Nat.le_refl _) _).alloc (by simp) _
  have hc := again_bad (L.below hb) i hi (.func (.func 36) #[] #[.pointer (some ⟨w.heap.size, 0, none⟩), .pointer (some ⟨w.heap.size + 1, 0, none⟩)])
  have HB := Lib.hid (And.intro hb L)
  clear L hi hb
  go_enter Tryz.func18, Tryz.ntmps18
  go_wp2_with fail
  rw [← hw2]
  refine hc.mono ?_
  rintro e w' ⟨rfl, rfl⟩
  clear hc
  go_wp2_with fail
  go_ret
  have HC := HB.out
  rw [hw2] at HC
  exact ⟨x, rfl, rfl, HC.2.below HC.1, ⟨HC.1.size, fun k hk _ => HC.1.block k hk, fun k hk => .inl hk⟩⟩
theorem lcrash_any {w0 w : World} {x : LB} {room : Int} {s : LS} (L : Lg w0 w x room s) (i keep turn : Int) (hinv : ∀ t ∈ s.st, Inv t) :
    ∃ r, Calls Tryz.prog 18 #[.pointer (some ⟨x.lg, 0, none⟩), .int .i64 i, .int .i64 keep, .int .i64 turn] w (AnyP w0 w x room s r) := by
  by_cases hi : i < 0 ∨ (x.ns.length : Int) ≤ i
  · exact ⟨1, lcrash_bad L i hi keep turn⟩
  · have hl := L.len
    obtain ⟨n, rfl⟩ : ∃ n : Nat, i = n := ⟨i.toNat, by omega⟩
    exact ⟨0, lcrash_calls L (by omega) keep turn hinv⟩
end Go.Proofs.YtiinelmednbpmaaGreat.Slog
