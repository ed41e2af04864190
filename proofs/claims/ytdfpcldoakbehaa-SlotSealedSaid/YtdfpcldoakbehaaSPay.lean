import Derived.Test.YtdfpcldoakbehaaSOpen
/- Payloads: what is laid down, and what it is read as. -/
namespace Go.Proofs.Ytdfpcldoakbehaa.PSlotNobody
open Go.RowKit Go.Proofs.Ytdfpcldoakbehaa.Crc Go.Proofs.Ytdfpcldoakbehaa.Pack Go.Proofs.YtdfpcldoakbehaaW.PrintWords
/-- A number's bytes (up to 2097151). -/
def uintW (n : Nat) : List Int := if n < 128 then [(n : Int)] else if n < 16384 then [(n : Int) % 128 + 128, (n : Int) / 128] else [(n : Int) % 128 + 128, (n : Int) / 128 % 128 + 128, (n : Int) / 16384]
theorem uintW_len (n : Nat) : 1 ≤ (uintW n).length ∧ (uintW n).length ≤ 3 := by
  unfold uintW; split
  · simp
  · split <;> simp
theorem uintW_len2 (n : Nat) (h : n < 16384) : (uintW n).length ≤ 2 := by
  unfold uintW
  by_cases h1 : n < 128
  · rw [if_pos h1]; simp
  · rw [if_neg h1, if_pos h]; simp
theorem uintW_bytes (n : Nat) (h : n < 2097152) : ∀ x ∈ uintW n, 0 ≤ x ∧ x ≤ 255 := by
  intro x hx
  unfold uintW at hx
  split at hx
  · simp at hx; omega
  · split at hx
    · simp at hx; omega
    · simp at hx; omega
theorem uintR_uintW (n : Nat) (hn : n < 2097152) (rest : List Int) : uintR (uintW n ++ rest) = ((n : Int), 0, (uintW n).length) := by
  unfold uintR uintW
  split
  · rename_i h
    rw [uintGo]
    simp
    rw [if_neg (by omega)]
    congr 1
    omega
  · split
    · rename_i h
      rw [uintGo]
      simp
      rw [if_pos (by omega), uintGo]
      simp
      rw [if_neg (by omega), if_neg (by omega)]
      congr 1
      omega
    · rename_i h h2
      rw [uintGo]
      simp
      rw [if_pos (by omega), uintGo]
      simp
      rw [if_pos (by omega), uintGo]
      simp
      rw [if_neg (by omega), if_neg (by omega)]
      congr 1
      omega
theorem or128' (n : Int) (h0 : 0 ≤ n) : bits .or .u8 (n % 256) 128 = n % 128 + 128 := by
  obtain ⟨m, rfl⟩ := Int.eq_ofNat_of_zero_le h0
  exact or128 m
theorem uint_eq (k : Nat) (l : List Int) (n : Nat) (hn : n < 2097152) (hl : l.length ≤ 1048576) : pack_Uint.f (k + 3) l (n : Int) = some (l ++ uintW n) := by
  unfold pack_Uint.f
  rw [Option.bind_some, if_pos (by simp; omega), List.nil_append, pack_Uint.l0]
  unfold uintW
  by_cases h : n < 128
  · rw [if_neg (by omega), if_pos (by omega), if_pos h]
    have e : (n : Int) % 256 = n := by omega
    rw [e]
  · rw [if_pos (by omega), if_pos (by omega), pack_Uint.l0, if_neg h, or128' _ (by omega)]
    by_cases h2 : n < 16384
    · have e : (n : Int) / 128 % 256 = (n : Int) / 128 := by omega
      rw [if_neg (by omega), if_pos (by rw [List.length_append]; simp; omega), if_pos h2, e, List.append_assoc]
      rfl
    · have e : (n : Int) / 128 / 128 % 256 = (n : Int) / 16384 := by omega
      rw [if_pos (by omega), if_pos (by rw [List.length_append]; simp; omega), pack_Uint.l0, if_neg (by omega), if_pos (by rw [List.length_append, List.length_append]; simp; omega), if_neg h2, e, or128' _ (by omega), List.append_assoc, List.append_assoc]
      rfl
theorem puint_calls (A : Option Addr) (c : Nat) (l : List Int) (n : Int) (w : World) (hC : (Kd.int .u8).C w A l.length l) (hc : l.length ≤ c) (h0 : 0 ≤ n) (hn : n < 2097152) (hl : l.length ≤ 1048576) :
    Calls Try.prog 25 #[.slice A l.length c, .int .u64 n] w fun e w' => ∃ v, e = .returned v ∧ (Kd.int .u8).R 5 w' w.heap.size (fun _ => True) v (l ++ uintW n.toNat) ∧ Below w.heap.size w w' := by
  obtain ⟨m, rfl⟩ := Int.eq_ofNat_of_zero_le h0
  exact pack_Uint.calls 3 A c l (m : Int) _ w hC hc (uint_eq 0 l m (by omega) hl)
theorem pbytes_calls (A : Option Addr) (c : Nat) (l : List Int) (B : Option Addr) (d : Nat) (b : List Int) (w : World) (hC : (Kd.int .u8).C w A l.length l) (hc : l.length ≤ c) (hCb : (Kd.int .u8).C w B b.length b) (hd : b.length ≤ d) (hl : l.length ≤ 1048570) (hb : b.length < 1048576) :
    Calls Try.prog 24 #[.slice A l.length c, .slice B b.length d] w fun e w' => ∃ v, e = .returned v ∧ (Kd.int .u8).R 5 w' w.heap.size (fun _ => True) v (l ++ (uintW b.length ++ b)) ∧ Below w.heap.size w w' := by
  refine pack_Bytes.calls 3 A c l B d b _ w hC hc hCb hd ?_
  have hw : IntKind.u64.wrap (b.length : Int) = b.length := by rw [IntKind.wrap_u64]; omega
  have h3 := uintW_len b.length
  unfold pack_Bytes.f
  rw [hw, uint_eq 0 l b.length (by omega) (by omega), Option.bind_some, if_pos (by rw [List.length_append]; omega), List.append_assoc]
theorem equal_go (a b : List Int) (hl : a.length = b.length) (hb : a.length ≤ 1048576) : ∀ (d i k : Nat), i + d = a.length → d < k → a.take i = b.take i → slices_Equal_byte_byte.l0 k a b (a.length : Int) i = some (decide (a = b))
  | 0, i, k, hi, hk, he => by
    obtain ⟨k, rfl⟩ : ∃ m, k = m + 1 := ⟨k - 1, by omega⟩
    rw [slices_Equal_byte_byte.l0, if_neg (by omega)]
    rw [List.take_of_length_le (by omega), List.take_of_length_le (by omega)] at he
    rw [he, decide_eq_true rfl]
  | d + 1, i, k, hi, hk, he => by
    obtain ⟨k, rfl⟩ : ∃ m, k = m + 1 := ⟨k - 1, by omega⟩
    have h1 : i < a.length := by omega
    have h2 : i < b.length := by omega
    have ea : rd a (i : Int) = a[i] := by unfold rd; rw [Int.toNat_natCast, List.getD_eq_getElem?_getD, List.getElem?_eq_getElem h1]; rfl
    have eb : rd b (i : Int) = b[i] := by unfold rd; rw [Int.toNat_natCast, List.getD_eq_getElem?_getD, List.getElem?_eq_getElem h2]; rfl
    have hw : wrap64 ((i : Int) + 1) = ((i + 1 : Nat) : Int) := by unfold wrap64; omega
    rw [slices_Equal_byte_byte.l0, if_pos (by omega), if_pos (by omega), if_pos (by omega), if_pos (by omega), ea, eb]
    by_cases h : a[i] = b[i]
    · rw [if_pos h, hw]
      refine equal_go a b hl hb d (i + 1) k (by omega) (by omega) ?_
      rw [List.take_succ_eq_append_getElem h1, List.take_succ_eq_append_getElem h2, he, h]
    · rw [if_neg h, decide_eq_false (fun e => h (by simp only [e]))]
theorem equal_calls (A : Option Addr) (c : Nat) (a : List Int) (B : Option Addr) (d : Nat) (b : List Int) (w : World) (hC : (Kd.int .u8).C w A a.length a) (hc : a.length ≤ c) (hD : (Kd.int .u8).C w B b.length b) (hd : b.length ≤ d) (hb : a.length ≤ 1048576) :
    Calls Try.prog 22 #[.slice A a.length c, .slice B b.length d] w fun e w' => e = .returned (.bool (decide (a = b))) ∧ Drawn0 w w' := by
  refine slices_Equal_byte_byte.calls (a.length + 1) A c a B d b _ w hC hc hD hd ?_
  unfold slices_Equal_byte_byte.f
  by_cases h : a.length = b.length
  · rw [if_pos (by omega)]
    exact equal_go a b h hb a.length 0 _ (by omega) (by omega) rfl
  · rw [if_neg (by omega), decide_eq_false (fun e => h (by rw [e]))]
end Go.Proofs.Ytdfpcldoakbehaa.PSlotNobody
namespace Go.Proofs.Ytdfpcldoakbehaa.Slot
open Go.Proofs.Ytdfpcldoakbehaa.Crc Go.Proofs.Ytdfpcldoakbehaa.Pack Go.Proofs.Ytdfpcldoakbehaa.PSlotNobody
def writeP (ep at_ : Nat) (b : List Int) : List Int := uintW 1 ++ uintW ep ++ uintW at_ ++ (uintW b.length ++ b)
def sealP (ep : Nat) : List Int := uintW 2 ++ uintW ep
theorem headR_write (ep at_ : Nat) (b : List Int) (h : ep ≤ 1048576) : headR (writeP ep at_ b) = some ⟨1, ep, uintW at_ ++ (uintW b.length ++ b)⟩ := by
  have e1 : writeP ep at_ b = uintW 1 ++ (uintW ep ++ (uintW at_ ++ (uintW b.length ++ b))) := by unfold writeP; simp [List.append_assoc]
  unfold headR
  rw [e1, uintR_uintW 1 (by omega)]
  simp only
  rw [List.drop_left, uintR_uintW ep (by omega)]
  simp only
  rw [List.drop_left, if_neg (by simp; omega)]
  rfl
theorem headR_seal (ep : Nat) (h : ep ≤ 1048576) : headR (sealP ep) = some ⟨2, ep, []⟩ := by
  have e1 : sealP ep = uintW 2 ++ (uintW ep ++ []) := by unfold sealP; simp
  unfold headR
  rw [e1, uintR_uintW 2 (by omega)]
  simp only
  rw [List.drop_left, uintR_uintW ep (by omega)]
  simp only
  rw [List.drop_left, if_neg (by simp; omega)]
  rfl
theorem cellR_write (at_ : Nat) (b : List Int) (ha : at_ < 4096) (hb : b.length ≤ 2048) : cellR (uintW at_ ++ (uintW b.length ++ b)) = some ((at_ : Int), b) := by
  unfold cellR bytesR
  rw [uintR_uintW at_ (by omega)]
  simp only
  rw [List.drop_left, uintR_uintW b.length (by omega)]
  simp only
  rw [List.drop_left, List.length_append]
  have e1 : ¬ (((uintW b.length).length + b.length - (uintW b.length).length : Nat) : Int) < (b.length : Int) := by omega
  rw [if_neg (show ¬ ((0 : Int) ≠ 0) from fun h => h rfl), if_neg e1]
  simp only [Int.toNat_natCast, List.take_length]
  have e2 : (uintW b.length ++ b).drop ((uintW b.length).length + b.length) = [] := List.drop_eq_nil_of_le (by rw [List.length_append]; omega)
  rw [e2, if_neg (by simp; omega)]
theorem writeP_len (ep at_ : Nat) (b : List Int) (ha : at_ < 4096) (hb : b.length ≤ 2048) : (writeP ep at_ b).length ≤ b.length + 8 := by
  unfold writeP
  simp only [List.length_append]
  have h1 : (uintW 1).length = 1 := rfl
  have h2 := uintW_len ep
  have h3 := uintW_len2 at_ (by omega)
  have h4 := uintW_len2 b.length (by omega)
  omega
theorem sealP_len (ep : Nat) : (sealP ep).length ≤ 4 := by
  unfold sealP
  rw [List.length_append]
  have h1 : (uintW 2).length = 1 := rfl
  have h2 := uintW_len ep
  omega
theorem writeP_bytes (ep at_ : Nat) (b : List Int) (h : ep ≤ 1048576) (ha : at_ < 4096) (hb : b.length ≤ 2048) (hby : ∀ x ∈ b, 0 ≤ x ∧ x ≤ 255) : ∀ x ∈ writeP ep at_ b, 0 ≤ x ∧ x ≤ 255 := by
  intro x hx
  unfold writeP at hx
  simp only [List.mem_append] at hx
  rcases hx with ((hx | hx) | hx) | hx | hx
  · exact uintW_bytes 1 (by omega) x hx
  · exact uintW_bytes ep (by omega) x hx
  · exact uintW_bytes at_ (by omega) x hx
  · exact uintW_bytes b.length (by omega) x hx
  · exact hby x hx
theorem sealP_bytes (ep : Nat) (h : ep ≤ 1048576) : ∀ x ∈ sealP ep, 0 ≤ x ∧ x ≤ 255 := by
  intro x hx
  unfold sealP at hx
  rcases List.mem_append.1 hx with hx | hx
  · exact uintW_bytes 2 (by omega) x hx
  · exact uintW_bytes ep (by omega) x hx
theorem frame_len (p : List Int) : (frameF p).length ≤ p.length + 6 := by
  rw [frameF_len, uintB_len]; split <;> omega
/-- A node by definition: its epoch, its cells, the disk's bytes. -/
abbrev S3 := Int × List B3 × List Int
def noteF (s : S3) (p : List Int) : S3 := ((redoF (s.1, s.2.1) p).1, (redoF (s.1, s.2.1) p).2, s.2.2 ++ frameF p)
def writeF (s : S3) (ep at_ : Int) (b : List Int) : Int × S3 :=
  if at_ < 0 ∨ 4096 ≤ at_ ∨ ep < 0 ∨ 1048576 < ep ∨ 2048 < b.length then (2, s)
  else if ep < s.1 then (7, s)
  else match look s.2.1 at_ with
    | none => (0, noteF s (writeP ep.toNat at_.toNat b))
    | some d => if ep ≤ d.2.1 then (if d.2.1 = ep ∧ d.2.2 = b then (0, s) else (12, s)) else (0, noteF s (writeP ep.toNat at_.toNat b))
def sealF (s : S3) (ep : Int) : Int × S3 :=
  if ep < 0 ∨ 1048576 < ep then (2, s) else if ep ≤ s.1 then (7, s) else (0, noteF s (sealP ep.toNat))
end Go.Proofs.Ytdfpcldoakbehaa.Slot
