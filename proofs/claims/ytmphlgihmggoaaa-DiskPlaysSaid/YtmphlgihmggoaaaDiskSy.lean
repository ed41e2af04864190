import Derived.Test.YtmphlgihmggoaaaDiskFu
/- The walk of DiskSyncs. -/
namespace Go.Proofs.Ytmphlgihmggoaaa.DiskM
open Go.RowKit Go.Proofs.YtmphlgihmggoaaaW.PrintWords Go.Proofs.YtmphlgihmggoaaaW.PrintLast Go.Proofs.YtmphlgihmggoaaaW.PrintMore Go.Proofs.Ytmphlgihmggoaaa.Row Go.Proofs.Ytmphlgihmggoaaa.Cut

theorem crash_synced (bs : List Int) (keep turn : Int) : crashM bs bs.length keep turn = bs := by
  have h : crashN bs bs.length keep = 0 := by unfold crashN; omega
  unfold crashM crashL
  rw [h, if_neg (by omega), Nat.add_zero, List.take_length]
set_option maxHeartbeats 8000000 in
theorem syncs_walk (A : Option Addr) (c : Nat) (l : List (List Int)) (keep turn : Int) (w : World) (hK : (Kd.slice 5 (Kd.int .u8)).C w A l.length l) (hby : ∀ b ∈ l, ∀ x ∈ b, 0 ≤ x ∧ x ≤ 255) (hlen : ∀ b ∈ l, b.length ≤ 140737488351232) :
    Calls Try.prog 5 #[.slice A l.length c, .int .i64 keep, .int .i64 turn] w fun e w' => e = .returned (.bool true) ∧ Below w.heap.size w w' := by
  have HK := Lib.hid hK; have HBy := Lib.hid hby; have HLen := Lib.hid hlen
  have hll : l.length ≤ 9223372036854775807 := hK.2.1
  clear hK hby hlen
  go_enter Try.func5, Try.ntmps5
  go_wp2_with fail
  refine (shown_calls w).mono ?_
  rintro e w1 ⟨rfl, B1⟩
  go_wp2_with fail
  refine (new_ok (w0 := w) 1048576 B1 (by omega) (by omega)).mono ?_
  rintro e w2 ⟨rfl, D2, B2⟩
  generalize w1.heap.size = g at D2
  have HD2 := Lib.hid D2
  clear D2 B2 B1
  go_wp2_with fail
  go_loopw [10, 11] (fun s i wr => ∃ (k : Nat) (bs : List Int) (v : Value), k ≤ l.length ∧ i = .int .i64 k ∧ s = .string (strOfNums bs) ∧ Dk w wr g v 1048576 bs bs.length) (fun _ i _ => l.length - (intOf i).toNat)
  case atStart => exact ⟨0, [], _, Nat.zero_le _, rfl, rfl, HD2.out⟩
  case round =>
    obtain ⟨k, bs, v, hk, rfl, rfl, hd⟩ := hrel
    have HD := Lib.hid hd
    have hsz := str_size bs
    obtain ⟨S, hS⟩ : ∃ S, S = strOfNums bs := ⟨_, rfl⟩
    rw [← hS] at hsz ⊢
    have HS := Lib.hid hS
    have hfit := hd.fit
    clear hS hd
    by_cases hlt : k < l.length ∧ k < 50
    · obtain ⟨hk1, hk2⟩ := hlt
      obtain ⟨ad, Ai, ci, li, hA, hli, hcell0, hC⟩ := at_bytes HK.out k hk1
      subst hA
      have hcell := pw_cell_below HD.out.below hcell0
      have hlm : li ∈ l := List.mem_of_getElem? hli
      have hlb := HLen.out li hlm
      have hki : ((k : Nat) : Int) < (l.length : Int) := by omega
      have hk2i : ((k : Nat) : Int) < 50 := by omega
      have HC := Lib.hid hC; have HC0 := Lib.hid hcell0
      clear hC hli hcell0
      by_cases hf : (li.length : Int) ≤ 1048576 - (bs.length : Int)
      · have hsz2 := str_size li
        obtain ⟨S2, hS2⟩ : ∃ S2, S2 = strOfNums li := ⟨_, rfl⟩
        rw [← hS2] at hsz2
        have HS2 := Lib.hid hS2
        clear hS2
        go_wp2_with (first
          | (go_at_call 11; refine (append_ok HD.out Ai ci li (Kd.C_below HC.out HD.out.below) (HBy.out li hlm) hf).mono ?_; rintro e w4 ⟨rfl, v4, D4, F4⟩; have HD4 := Lib.hid D4; have cv : (convert 22 9 (.slice Ai li.length ci)).run Try.prog w4 = .ok (.string S2) w4 := (Kd.C_string Try.underlying22 Try.underlying5 Try.underlying9 (Kd.C_below HC.out D4.below)).trans (by rw [HS2.out]); have ce := pw_cell_below D4.below HC0.out; clear D4)
          | (go_at_call 12; refine (sync_calls HD4.out).mono ?_; rintro e w5 ⟨rfl, D5, F5⟩; have HD5 := Lib.hid D5; clear D5)
          | (go_at_call 13; refine (crash_calls HD5.out keep turn).mono ?_; rintro e w6 ⟨rfl, v6, D6, F6⟩; rw [crash_synced] at D6; have HD6 := Lib.hid D6; clear D6)
          | (go_at_call 14; refine (bytes_calls HD6.out).mono ?_; rintro e w7 ⟨gb, rfl, R7, B7⟩; have cv7 : (convert 22 9 (.slice (some ⟨gb, 0, none⟩) (bs ++ li).length (bs ++ li).length)).run Try.prog w7 = .ok (.string (S ++ S2)) w7 := (row_str R7).trans (by rw [str_append, HS.out, HS2.out]); have HD7 := Lib.hid (HD6.out.step B7); rw [List.length_append] at cv7; clear R7)
          | (go_at_call 15; refine (safe_calls HD7.out).mono ?_; rintro e w8 ⟨rfl, rfl⟩))
        go_roundw
        case rel => exact ⟨k + 1, bs ++ li, _, by omega, by go_num, by rw [str_append, ← HS.out, ← HS2.out], HD7.out⟩
        case measure => simp [intOf]; omega
      · have hfd : 1048576 - (bs.length : Int) < (li.length : Int) := by omega
        go_wp2_with (first
          | (go_at_call 11; refine (append_full HD.out Ai ci li.length (by omega) hfd).mono ?_; rintro e w4 ⟨rfl, d4⟩; have HD4 := Lib.hid (HD.out.step d4.below))
          | (go_at_call 12; refine (sync_calls HD4.out).mono ?_; rintro e w5 ⟨rfl, D5, F5⟩; have HD5 := Lib.hid D5; clear D5)
          | (go_at_call 13; refine (crash_calls HD5.out keep turn).mono ?_; rintro e w6 ⟨rfl, v6, D6, F6⟩; rw [crash_synced] at D6; have HD6 := Lib.hid D6; clear D6)
          | (go_at_call 14; refine (bytes_calls HD6.out).mono ?_; rintro e w7 ⟨gb, rfl, R7, B7⟩; have cv7 : (convert 22 9 (.slice (some ⟨gb, 0, none⟩) bs.length bs.length)).run Try.prog w7 = .ok (.string S) w7 := (row_str R7).trans (by rw [HS.out]); have HD7 := Lib.hid (HD6.out.step B7); clear R7)
          | (go_at_call 15; refine (safe_calls HD7.out).mono ?_; rintro e w8 ⟨rfl, rfl⟩))
        go_roundw
        case rel => exact ⟨k + 1, bs, _, by omega, by go_num, by rw [← HS.out], HD7.out⟩
        case measure => simp [intOf]; omega
    · by_cases hk1 : k < l.length
      · have hk2 : ¬ k < 50 := fun h => hlt ⟨hk1, h⟩
        have hki : ((k : Nat) : Int) < (l.length : Int) := by omega
        have hk2i : 50 ≤ ((k : Nat) : Int) := by omega
        clear hlt
        go_wp2
        go_ret
        exact ⟨rfl, HD.out.below⟩
      · have hki : (l.length : Int) ≤ ((k : Nat) : Int) := by omega
        clear hlt
        go_wp2
        go_ret
        exact ⟨rfl, HD.out.below⟩
end Go.Proofs.Ytmphlgihmggoaaa.DiskM
