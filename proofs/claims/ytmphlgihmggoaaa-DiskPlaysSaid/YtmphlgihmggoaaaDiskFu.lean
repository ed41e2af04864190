import Derived.Test.YtmphlgihmggoaaaDiskOw
/- The walks of DiskFull and DiskSyncs. -/
namespace Go.Proofs.Ytmphlgihmggoaaa.DiskM
open Go.RowKit Go.Proofs.YtmphlgihmggoaaaW.PrintWords Go.Proofs.YtmphlgihmggoaaaW.PrintLast Go.Proofs.YtmphlgihmggoaaaW.PrintMore Go.Proofs.Ytmphlgihmggoaaa.Row Go.Proofs.Ytmphlgihmggoaaa.Cut

theorem at_bytes {w : World} {A : Option Addr} {n : Nat} {l : List (List Int)} (h : (Kd.slice 5 (Kd.int .u8)).C w A n l) (i : Nat) (hi : i < n) :
    ∃ ad Ai ci li, A = some ad ∧ l[i]? = some li ∧ w.cell? (ad.add i) = some (.slice Ai li.length ci) ∧ (Kd.int .u8).C w Ai li.length li := by
  obtain ⟨hl, _, h⟩ := h
  obtain ⟨ad, hA, hc⟩ := h (by omega)
  obtain ⟨cs, _, ⟨Ai, ci, rfl, _, hC⟩, hat⟩ := hc i (l[i]) (List.getElem?_eq_getElem (by omega))
  refine ⟨ad, Ai, ci, l[i], hA, List.getElem?_eq_getElem (by omega), ?_, hC⟩
  have := hat 0 _ rfl
  have e1 : (Kd.slice 5 (Kd.int .u8)).sz = 1 := rfl
  rwa [e1, Nat.mul_one, Nat.add_zero] at this
theorem str_size (bs : List Int) : (strOfNums bs).size = bs.length := by simp [strOfNums, ByteArray.size]
theorem str_append (a b : List Int) : strOfNums (a ++ b) = strOfNums a ++ strOfNums b := by
  apply ByteArray.ext
  simp [strOfNums, ByteArray.data_append]

set_option maxHeartbeats 8000000 in
theorem full_walk (room : Int) (A : Option Addr) (c : Nat) (l : List (List Int)) (w : World) (hK : (Kd.slice 5 (Kd.int .u8)).C w A l.length l) (hby : ∀ b ∈ l, ∀ x ∈ b, 0 ≤ x ∧ x ≤ 255) (h0 : 0 ≤ room) (h1 : room ≤ 255) (hlen : ∀ b ∈ l, b.length ≤ 140737488351232) :
    Calls Try.prog 4 #[.int .u8 room, .slice A l.length c] w fun e w' => e = .returned (.bool true) ∧ Below w.heap.size w w' := by
  have HK := Lib.hid hK; have HBy := Lib.hid hby; have HLen := Lib.hid hlen
  have hll : l.length ≤ 9223372036854775807 := hK.2.1
  clear hK hby hlen
  go_enter Try.func4, Try.ntmps4
  go_wp2_with fail
  refine (shown_calls w).mono ?_
  rintro e w1 ⟨rfl, B1⟩
  go_wp2_with fail
  refine (new_ok (w0 := w) room B1 h0 (by omega)).mono ?_
  rintro e w2 ⟨rfl, D2, B2⟩
  generalize w1.heap.size = g at D2
  have HD2 := Lib.hid D2
  clear D2 B2 B1
  go_wp2_with fail
  go_loopw [8, 9] (fun s i wr => ∃ (k : Nat) (bs : List Int) (v : Value), k ≤ l.length ∧ i = .int .i64 k ∧ s = .string (strOfNums bs) ∧ Dk w wr g v room bs 0) (fun _ i _ => l.length - (intOf i).toNat)
  case atStart => exact ⟨0, [], _, Nat.zero_le _, rfl, rfl, HD2.out⟩
  case round =>
    obtain ⟨k, bs, v, hk, rfl, rfl, hd⟩ := hrel
    have HD := Lib.hid hd
    have hsz := str_size bs
    obtain ⟨S, hS⟩ : ∃ S, S = strOfNums bs := ⟨_, rfl⟩
    rw [← hS] at hsz ⊢
    have HS := Lib.hid hS
    have hfit := hd.fit
    clear hS hd
    by_cases hlt : k < l.length ∧ k < 100
    · obtain ⟨hk1, hk2⟩ := hlt
      obtain ⟨ad, Ai, ci, li, hA, hli, hcell0, hC⟩ := at_bytes HK.out k hk1
      subst hA
      have hcell := pw_cell_below HD.out.below hcell0
      have hlm : li ∈ l := List.mem_of_getElem? hli
      have hlb := HLen.out li hlm
      have hki : ((k : Nat) : Int) < (l.length : Int) := by omega
      have hk2i : ((k : Nat) : Int) < 100 := by omega
      have HC := Lib.hid hC; have HC0 := Lib.hid hcell0
      clear hC hli hcell0
      by_cases hf : (li.length : Int) ≤ room - bs.length
      · have hfd : (bs.length : Int) + (li.length : Int) ≤ room := by omega
        have hsz2 := str_size li
        obtain ⟨S2, hS2⟩ : ∃ S2, S2 = strOfNums li := ⟨_, rfl⟩
        rw [← hS2] at hsz2
        have HS2 := Lib.hid hS2
        clear hS2
        go_wp2_with (go_at_call 11; refine (append_ok HD.out Ai ci li (Kd.C_below HC.out HD.out.below) (HBy.out li hlm) hf).mono ?_; rintro e w4 ⟨rfl, v4, D4, F4⟩; have HD4 := Lib.hid D4; have cv : (convert 22 9 (.slice Ai li.length ci)).run Try.prog w4 = .ok (.string S2) w4 := (Kd.C_string Try.underlying22 Try.underlying5 Try.underlying9 (Kd.C_below HC.out D4.below)).trans (by rw [HS2.out]); have ce := pw_cell_below D4.below HC0.out; clear D4)
        go_roundw
        case rel => exact ⟨k + 1, bs ++ li, v4, by omega, by go_num, by rw [str_append, ← HS.out, ← HS2.out], HD4.out⟩
        case measure => simp [intOf]; omega
      · have hfd : room < (bs.length : Int) + (li.length : Int) := by omega
        go_wp2_with (go_at_call 11; refine (append_full HD.out Ai ci li.length (by omega) (by omega)).mono ?_; rintro e w4 ⟨rfl, d4⟩; have D4 := HD.out.step d4.below; have HD4 := Lib.hid D4; have ce := pw_cell_below D4.below HC0.out; clear D4)
        go_roundw
        case rel => exact ⟨k + 1, bs, v, by omega, by go_num, by rw [← HS.out], HD4.out⟩
        case measure => simp [intOf]; omega
    · have fin : ∀ W gb, Row W wr.heap.size 5 (.slice (some ⟨gb, 0, none⟩) bs.length bs.length) (nums .u8 bs) → (convert 22 9 (.slice (some ⟨gb, 0, none⟩) bs.length bs.length)).run Try.prog W = .ok (.string S) W := fun W gb h => (row_str h).trans (by rw [HS.out])
      have FIN := Lib.hid fin
      clear fin
      by_cases hk1 : k < l.length
      · have hk2 : ¬ k < 100 := fun h => hlt ⟨hk1, h⟩
        have hki : ((k : Nat) : Int) < (l.length : Int) := by omega
        have hk2i : 100 ≤ ((k : Nat) : Int) := by omega
        clear hlt
        go_wp2_with (first | (go_at_call 14; refine (bytes_calls HD.out).mono ?_; rintro e w4 ⟨gb, rfl, R4, B4⟩; have cv := FIN.out _ _ R4; have HD4 := Lib.hid (HD.out.step B4); clear R4) | (go_at_call 15; refine (safe_calls HD4.out).mono ?_; rintro e w5 ⟨rfl, rfl⟩))
        go_ret
        exact ⟨rfl, HD4.out.below⟩
      · have hki : (l.length : Int) ≤ ((k : Nat) : Int) := by omega
        clear hlt
        go_wp2_with (first | (go_at_call 14; refine (bytes_calls HD.out).mono ?_; rintro e w4 ⟨gb, rfl, R4, B4⟩; have cv := FIN.out _ _ R4; have HD4 := Lib.hid (HD.out.step B4); clear R4) | (go_at_call 15; refine (safe_calls HD4.out).mono ?_; rintro e w5 ⟨rfl, rfl⟩))
        go_ret
        exact ⟨rfl, HD4.out.below⟩
end Go.Proofs.Ytmphlgihmggoaaa.DiskM
