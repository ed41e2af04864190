import Derived.Test.YtdfpcldoakbehaaSSeal
/- The contracts once more, over what a node is by definition; a nil node; bytes that are too many. -/
namespace Go.Proofs.Ytdfpcldoakbehaa.Slot
open Go.RowKit Go.Maps Go.Proofs.YtdfpcldoakbehaaW.PrintWords Go.Proofs.YtdfpcldoakbehaaW.PrintMore Go.Proofs.Ytdfpcldoakbehaa.Row Go.Proofs.Ytdfpcldoakbehaa.Cut Go.Proofs.Ytdfpcldoakbehaa.DiskM Go.Proofs.Ytdfpcldoakbehaa.Quor
open Go.Proofs.Ytdfpcldoakbehaa.Crc
def NS (w0 w : World) (n : NB) (g gd : Nat) (room : Int) (s : S3) : Prop := n.gn = g ∧ n.gd = gd ∧ ∃ m, Nd w0 w n room s.2.2 s.2.2.length s.1 m ∧ m.map C4.c3 = s.2.1
section
variable {w0 w w' : World} {n : NB} {g gd : Nat} {vd : Value} {room : Int} {s : S3}
theorem NS.below (h : NS w0 w n g gd room s) (hb : Below w.heap.size w w') : NS w0 w' n g gd room s := by
  obtain ⟨h1, h2, m, N, hm⟩ := h
  exact ⟨h1, h2, m, N.below hb, hm⟩
theorem NS.all (h : NS w0 w n g gd room s) : Below w0.heap.size w0 w := by
  obtain ⟨_, _, m, N, _⟩ := h
  exact N.seg.disk.below
theorem NS.disk (h : NS w0 w n g gd room s) : Dk w0 w gd n.vd room s.2.2 s.2.2.length := by
  obtain ⟨_, rfl, m, N, _⟩ := h
  exact N.seg.disk
theorem NS.rng (h : NS w0 w n g gd room s) : 0 ≤ s.1 ∧ s.1 ≤ 1048576 := by
  obtain ⟨_, _, m, N, _⟩ := h
  exact N.rng
theorem NS.rngc (h : NS w0 w n g gd room s) : ∀ c ∈ s.2.1, (0 ≤ c.1 ∧ c.1 ≤ 4095) ∧ (0 ≤ c.2.1 ∧ c.2.1 ≤ 1048576) ∧ c.2.2.length ≤ 2048 ∧ ∀ x ∈ c.2.2, 0 ≤ x ∧ x ≤ 255 := by
  obtain ⟨_, _, m, N, hm⟩ := h
  intro c hc
  rw [← hm] at hc
  obtain ⟨z, hz, rfl⟩ := List.mem_map.1 hc
  exact N.rngc z hz
theorem NS.lt (h : NS w0 w n g gd room s) {k : Nat} (hk : SN n k) : k < w.heap.size := by
  obtain ⟨_, _, m, N, _⟩ := h
  exact N.lt hk
theorem NS.low (h : NS w0 w n g gd room s) {k : Nat} (hk : SN n k) : w0.heap.size ≤ k := by
  obtain ⟨_, _, m, N, _⟩ := h
  exact N.low hk
theorem scan_nil : scanF [] = ([], 0) := by decide +kernel
def OpenNP (w0 w : World) (gd : Nat) (vd : Value) (room : Int) (s : S3) (e : Ending) (w' : World) : Prop :=
  ∃ n g, e = .returned (.pointer (some ⟨g, 0, none⟩)) ∧ NS w0 w' n g gd room s ∧ Stp w w' (DB gd vd) (SN n)
theorem open_ns {bs : List Int} {safe : Nat} (D : Dk w0 w gd vd room bs safe) (h : ((foldF (scanF bs).1).1, (foldF (scanF bs).1).2, bs.take (scanF bs).2) = s) :
    Calls Try.prog 10 #[.pointer (some ⟨gd, 0, none⟩)] w (OpenNP w0 w gd vd room s) := by
  refine (open_calls D).mono ?_
  rintro e w1 ⟨n, ep, m, h1, rfl, N, hf, hs⟩
  subst h
  refine ⟨n, n.gn, rfl, ⟨rfl, h1, m, ?_, ?_⟩, hs⟩
  · show Nd w0 w1 n room (bs.take (scanF bs).2) (bs.take (scanF bs).2).length (foldF (scanF bs).1).1 m
    rw [← hf]; exact N
  · show m.map C4.c3 = (foldF (scanF bs).1).2
    rw [← hf]
theorem open_new (D : Dk w0 w gd vd room [] 0) : Calls Try.prog 10 #[.pointer (some ⟨gd, 0, none⟩)] w (OpenNP w0 w gd vd room (0, [], [])) :=
  open_ns D (by rw [scan_nil]; rfl)
def WriteNP (w0 w : World) (n : NB) (g gd : Nat) (room : Int) (r : Int × S3) (e : Ending) (w' : World) : Prop :=
  ∃ n', e = .returned (.int .i64 r.1) ∧ NS w0 w' n' g gd room r.2 ∧ Stp w w' (SN n) (SN n')
set_option maxRecDepth 1000000 in
set_option maxHeartbeats 4000000 in
theorem write_big {bs : List Int} {ep : Int} {m : List C4} (N : Nd w0 w n room bs bs.length ep m) (epoch at_ : Int) (B : Option Addr) (d bl : Nat) (hbl : bl ≤ 9223372036854775807) (hbig : 2048 < bl) :
    Calls Try.prog 11 #[.pointer (some ⟨n.gn, 0, none⟩), .int .i64 epoch, .int .i64 at_, .slice B bl d] w (AnsP w0 w n room (2, (ep, m.map C4.c3, bs))) := by
  have HN := Lib.hid N
  have h4i : (2048 : Int) < (bl : Int) := by omega
  clear N
  by_cases h0 : at_ < 0
  · go_enter Try.func11, Try.ntmps11
    go_wp2_with fail
    go_ret
    exact AnsP.same HN.out (Below.refl _ _) 2
  · by_cases h1 : 4096 ≤ at_
    · go_enter Try.func11, Try.ntmps11
      go_wp2_with fail
      go_ret
      exact AnsP.same HN.out (Below.refl _ _) 2
    · by_cases h2 : epoch < 0
      · go_enter Try.func11, Try.ntmps11
        go_wp2_with fail
        go_ret
        exact AnsP.same HN.out (Below.refl _ _) 2
      · by_cases h3 : 1048576 < epoch
        · go_enter Try.func11, Try.ntmps11
          go_wp2_with fail
          go_ret
          exact AnsP.same HN.out (Below.refl _ _) 2
        · go_enter Try.func11, Try.ntmps11
          go_wp2_with fail
          go_ret
          exact AnsP.same HN.out (Below.refl _ _) 2
theorem write_ns (h : NS w0 w n g gd room s) (epoch at_ : Int) (B : Option Addr) (d : Nat) (b : List Int) (hC : (Kd.int .u8).C w B b.length b) (hd : b.length ≤ d) (hby : ∀ x ∈ b, 0 ≤ x ∧ x ≤ 255) (hbl : b.length ≤ 9223372036854775807) (hfit : (s.2.2.length : Int) + 2100 ≤ room) :
    Calls Try.prog 11 #[.pointer (some ⟨g, 0, none⟩), .int .i64 epoch, .int .i64 at_, .slice B b.length d] w (WriteNP w0 w n g gd room (writeF s epoch at_ b)) := by
  obtain ⟨rfl, rfl, m, N, hm⟩ := h
  have hs : s = (s.1, m.map C4.c3, s.2.2) := by rw [hm]
  by_cases hbig : 2048 < b.length
  · refine (write_big N epoch at_ B d b.length hbl hbig).mono ?_
    rintro e w1 ⟨n', ep', m', rfl, h1, h2, N', he, hst⟩
    have hF : writeF s epoch at_ b = (2, s) := by unfold writeF; rw [if_pos (.inr (.inr (.inr (.inr hbig))))]
    rw [hF, hs]
    injection he with he1 he2
    injection he2 with he2 he3
    refine ⟨n', rfl, ⟨h2, h1, m', ?_, he2⟩, hst⟩
    subst he1
    exact N'
  · refine (write_calls N epoch at_ B d b hC hd hby hbl (by omega)).mono ?_
    rintro e w1 ⟨n', ep', m', rfl, h1, h2, N', he, hst⟩
    rw [← hs] at N' he ⊢
    refine ⟨n', rfl, ⟨h2, h1, m', ?_, congrArg (fun x => x.2.1) he⟩, hst⟩
    have e1 : ep' = (writeF s epoch at_ b).2.1 := congrArg (fun x => x.1) he
    rw [← e1]; exact N'
/-- The same, where the bytes and the room are small. -/
theorem write_ns' (h : NS w0 w n g gd room s) (epoch at_ : Int) (B : Option Addr) (d : Nat) (b : List Int) (hC : (Kd.int .u8).C w B b.length b) (hd : b.length ≤ d) (hby : ∀ x ∈ b, 0 ≤ x ∧ x ≤ 255) (hbl : b.length ≤ 9223372036854775807) (hfit : (s.2.2.length : Int) + b.length + 20 ≤ room) :
    Calls Try.prog 11 #[.pointer (some ⟨g, 0, none⟩), .int .i64 epoch, .int .i64 at_, .slice B b.length d] w (WriteNP w0 w n g gd room (writeF s epoch at_ b)) := by
  obtain ⟨rfl, rfl, m, N, hm⟩ := h
  have hs : s = (s.1, m.map C4.c3, s.2.2) := by rw [hm]
  refine (write_calls N epoch at_ B d b hC hd hby hbl hfit).mono ?_
  rintro e w1 ⟨n', ep', m', rfl, h1, h2, N', he, hst⟩
  rw [← hs] at N' he ⊢
  refine ⟨n', rfl, ⟨h2, h1, m', ?_, congrArg (fun x => x.2.1) he⟩, hst⟩
  have e1 : ep' = (writeF s epoch at_ b).2.1 := congrArg (fun x => x.1) he
  rw [← e1]; exact N'
def SealNP (w0 w : World) (n : NB) (g gd : Nat) (room : Int) (r : Int × S3) (e : Ending) (w' : World) : Prop :=
  ∃ v out n', e = .returned (.tuple #[v, .int .i64 r.1]) ∧ K4.R 34 w' w.heap.size (fun _ => True) v out ∧ (∀ z ∈ out, OwnB w' w.heap.size z) ∧ (if r.1 = 0 then IsAll r.2.2.1 out else out = []) ∧ NS w0 w' n' g gd room r.2 ∧ Stp w w' (SN n) (SN n')
theorem seal_ns (h : NS w0 w n g gd room s) (epoch : Int) (hfit : (s.2.2.length : Int) + 20 ≤ room) :
    Calls Try.prog 15 #[.pointer (some ⟨g, 0, none⟩), .int .i64 epoch] w (SealNP w0 w n g gd room (sealF s epoch)) := by
  obtain ⟨rfl, rfl, m, N, hm⟩ := h
  have hs : s = (s.1, m.map C4.c3, s.2.2) := by rw [hm]
  refine (seal_calls N epoch hfit).mono ?_
  rintro e w1 ⟨v, out, n', ep', m', rfl, hR, hO, hA, h1, h2, N', he, hst⟩
  rw [← hs] at N' he hA ⊢
  refine ⟨v, out, n', rfl, hR, hO, hA, ⟨h2, h1, m', ?_, congrArg (fun x => x.2.1) he⟩, hst⟩
  have e1 : ep' = (sealF s epoch).2.1 := congrArg (fun x => x.1) he
  rw [← e1]; exact N'
theorem read_ns (h : NS w0 w n g gd room s) (a : Int) (ha : W64 a) : Calls Try.prog 13 #[.pointer (some ⟨g, 0, none⟩), .int .i64 a] w (ReadP w (readF s.2.1 a)) := by
  obtain ⟨rfl, rfl, m, N, hm⟩ := h
  rw [← hm]; exact read_calls N a ha
theorem tail_ns (h : NS w0 w n g gd room s) : Calls Try.prog 14 #[.pointer (some ⟨g, 0, none⟩)] w (TailP w s.2.1) := by
  obtain ⟨rfl, rfl, m, N, hm⟩ := h
  rw [← hm]; exact tail_calls N
theorem epoch_ns (h : NS w0 w n g gd room s) : Calls Try.prog 16 #[.pointer (some ⟨g, 0, none⟩)] w fun e w' => e = .returned (.int .i64 s.1) ∧ w = w' := by
  obtain ⟨rfl, rfl, m, N, hm⟩ := h
  exact epoch_calls N
end
/- A nil node. -/
set_option maxHeartbeats 1000000 in
theorem epoch_nil (w : World) : Calls Try.prog 16 #[.pointer none] w fun e w' => e = .returned (.int .i64 0) ∧ w = w' := by
  go_enter Try.func16, Try.ntmps16
  go_wp2
  go_ret
  exact ⟨rfl, rfl⟩
set_option maxHeartbeats 1000000 in
theorem tail_nil (w : World) : Calls Try.prog 14 #[.pointer none] w fun e w' => e = .returned (.int .i64 0) ∧ w = w' := by
  go_enter Try.func14, Try.ntmps14
  go_wp2
  go_ret
  exact ⟨rfl, rfl⟩
set_option maxHeartbeats 1000000 in
theorem write_nil (w : World) (epoch at_ : Int) (v : Value) : Calls Try.prog 11 #[.pointer none, .int .i64 epoch, .int .i64 at_, v] w fun e w' => e = .returned (.int .i64 8) ∧ w = w' := by
  go_enter Try.func11, Try.ntmps11
  go_wp2
  go_ret
  exact ⟨rfl, rfl⟩
set_option maxHeartbeats 1000000 in
theorem seal_nil (w : World) (epoch : Int) : Calls Try.prog 15 #[.pointer none, .int .i64 epoch] w fun e w' => e = .returned (.tuple #[.slice none 0 0, .int .i64 8]) ∧ w = w' := by
  go_enter Try.func15, Try.ntmps15
  go_wp2
  go_ret2
  exact ⟨rfl, rfl⟩
set_option maxHeartbeats 1000000 in
theorem read_nil (w : World) (a : Int) : Calls Try.prog 13 #[.pointer none, .int .i64 a] w fun e w' => e = .returned (.tuple #[.agg #[.int .i64 0, .int .i64 0, .slice none 0 0], .int .i64 8]) ∧ Below w.heap.size w w' := by
  have hb1 := (Below.refl w.heap.size w).alloc (Nat.le_refl _) (.cells #[.int .i64 0, .int .i64 0, .slice none 0 0] 34)
  have hk1 := heap_alloc_new w (.cells #[.int .i64 0, .int .i64 0, .slice none 0 0] 34)
  go_enter Try.func13, Try.ntmps13
  go_wp2
  refine bodyPost_ret (results_ct rfl _ _ w.heap.size 34 #[.int .i64 0, .int .i64 0, .slice none 0 0] (0, 0) _ rfl hk1 Try.underlying34 rfl (by kernel_rfl)) rfl ?_
  exact ⟨rfl, hb1⟩
end Go.Proofs.Ytdfpcldoakbehaa.Slot
/- Plain: what Write and Seal make of a node by definition. -/
namespace Go.Proofs.Ytdfpcldoakbehaa.Slot
open Go.Proofs.Ytdfpcldoakbehaa.Crc Go.Proofs.Ytdfpcldoakbehaa.Quor
theorem toNat_cast {x : Int} (h : 0 ≤ x) : ((x.toNat : Nat) : Int) = x := Int.toNat_of_nonneg h
/-- Must a slot be written? -/
def Free (s : S3) (ep at_ : Int) : Prop := look s.2.1 at_ = none ∨ ∃ d, look s.2.1 at_ = some d ∧ d.2.1 < ep
def wrote (s : S3) (ep at_ : Int) (b : List Int) : S3 := (s.1, putC (at_, ep, b) s.2.1, s.2.2 ++ frameF (writeP ep.toNat at_.toNat b))
theorem note_write (s : S3) (ep at_ : Int) (b : List Int) (h0 : 0 ≤ ep) (h1 : ep ≤ 1048576) (h2 : 0 ≤ at_) (h3 : at_ < 4096) (h4 : b.length ≤ 2048) (h5 : s.1 ≤ ep) (hf : Free s ep at_) : noteF s (writeP ep.toNat at_.toNat b) = wrote s ep at_ b := by
  have e1 := toNat_cast h0
  have e2 := toNat_cast h2
  have hr : redoF (s.1, s.2.1) (writeP ep.toNat at_.toNat b) = (s.1, putC (at_, ep, b) s.2.1) := by
    unfold redoF
    rw [headR_write ep.toNat at_.toNat b (by omega)]
    simp only [e1]
    rw [if_neg (by decide), if_pos trivial, cellR_write at_.toNat b (by omega) h4]
    simp only [e2]
    rw [if_neg (by omega)]
    rcases hf with hf | ⟨d, hf, hd⟩
    · rw [hf]
    · rw [hf]; simp only; rw [if_pos hd]
  unfold noteF wrote
  rw [hr]
theorem note_seal (s : S3) (ep : Int) (h0 : 0 ≤ ep) (h1 : ep ≤ 1048576) (h2 : s.1 < ep) : noteF s (sealP ep.toNat) = (ep, s.2.1, s.2.2 ++ frameF (sealP ep.toNat)) := by
  have e1 := toNat_cast h0
  have hr : redoF (s.1, s.2.1) (sealP ep.toNat) = (ep, s.2.1) := by
    unfold redoF
    rw [headR_seal ep.toNat (by omega)]
    simp only [e1]
    rw [if_pos trivial, if_pos ⟨trivial, h2⟩]
  unfold noteF
  rw [hr]
def InW (ep at_ : Int) (b : List Int) : Prop := 0 ≤ at_ ∧ at_ < 4096 ∧ 0 ≤ ep ∧ ep ≤ 1048576 ∧ b.length ≤ 2048
/-- What Write does, case by case. -/
theorem writeF_cases (s : S3) (ep at_ : Int) (b : List Int) :
    (¬ InW ep at_ b ∧ writeF s ep at_ b = (2, s)) ∨ (InW ep at_ b ∧ ep < s.1 ∧ writeF s ep at_ b = (7, s)) ∨
    (InW ep at_ b ∧ s.1 ≤ ep ∧ look s.2.1 at_ = some (at_, ep, b) ∧ writeF s ep at_ b = (0, s)) ∨
    (InW ep at_ b ∧ s.1 ≤ ep ∧ (∃ d, look s.2.1 at_ = some d ∧ ep ≤ d.2.1 ∧ ¬ (d.2.1 = ep ∧ d.2.2 = b)) ∧ writeF s ep at_ b = (12, s)) ∨
    (InW ep at_ b ∧ s.1 ≤ ep ∧ Free s ep at_ ∧ writeF s ep at_ b = (0, wrote s ep at_ b)) := by
  unfold writeF
  by_cases h : at_ < 0 ∨ 4096 ≤ at_ ∨ ep < 0 ∨ 1048576 < ep ∨ 2048 < b.length
  · rw [if_pos h]
    refine .inl ⟨?_, rfl⟩
    unfold InW; omega
  · rw [if_neg h]
    have hi : InW ep at_ b := by unfold InW; omega
    have hi' := hi
    obtain ⟨h1, h2, h3, h4, h5⟩ := hi'
    by_cases h6 : ep < s.1
    · rw [if_pos h6]; exact .inr (.inl ⟨hi, h6, rfl⟩)
    · rw [if_neg h6]
      cases hl : look s.2.1 at_ with
      | none =>
        have hf : Free s ep at_ := .inl hl
        simp only
        rw [note_write s ep at_ b h3 h4 h1 h2 h5 (by omega) hf]
        exact .inr (.inr (.inr (.inr ⟨hi, by omega, hf, rfl⟩)))
      | some d =>
        simp only
        by_cases h7 : ep ≤ d.2.1
        · rw [if_pos h7]
          by_cases h8 : d.2.1 = ep ∧ d.2.2 = b
          · rw [if_pos h8]
            have hd := (look_mem hl).2
            refine .inr (.inr (.inl ⟨hi, by omega, ?_, rfl⟩))
            obtain ⟨d1, d2, d3⟩ := d
            simp only at hd h8
            obtain ⟨rfl, rfl⟩ := h8
            rw [hd]
          · rw [if_neg h8]
            exact .inr (.inr (.inr (.inl ⟨hi, by omega, ⟨d, rfl, h7, h8⟩, rfl⟩)))
        · rw [if_neg h7]
          have hf : Free s ep at_ := .inr ⟨d, hl, by omega⟩
          rw [note_write s ep at_ b h3 h4 h1 h2 h5 (by omega) hf]
          exact .inr (.inr (.inr (.inr ⟨hi, by omega, hf, rfl⟩)))
theorem sealF_cases (s : S3) (ep : Int) (hs : 0 ≤ s.1) :
    ((ep ≤ s.1 ∨ 1048576 < ep) ∧ (∃ r, r ≠ 0 ∧ sealF s ep = (r, s))) ∨ (s.1 < ep ∧ ep ≤ 1048576 ∧ sealF s ep = (0, (ep, s.2.1, s.2.2 ++ frameF (sealP ep.toNat)))) := by
  unfold sealF
  by_cases h : ep < 0 ∨ 1048576 < ep
  · rw [if_pos h]; exact .inl ⟨by omega, 2, by decide, rfl⟩
  · rw [if_neg h]
    by_cases h2 : ep ≤ s.1
    · rw [if_pos h2]; exact .inl ⟨.inl h2, 7, by decide, rfl⟩
    · rw [if_neg h2, note_seal s ep (by omega) (by omega) (by omega)]
      exact .inr ⟨by omega, by omega, rfl⟩
theorem wrote_len (s : S3) (ep at_ : Int) (b : List Int) (h : InW ep at_ b) : (wrote s ep at_ b).2.2.length ≤ s.2.2.length + b.length + 14 := by
  obtain ⟨h1, h2, h3, h4, h5⟩ := h
  have q1 := writeP_len ep.toNat at_.toNat b (by omega) h5
  have q2 := frame_len (writeP ep.toNat at_.toNat b)
  unfold wrote
  simp only [List.length_append]
  omega
theorem writeF_len (s : S3) (ep at_ : Int) (b : List Int) : (writeF s ep at_ b).2.2.2.length ≤ s.2.2.length + 2062 := by
  rcases writeF_cases s ep at_ b with ⟨_, h⟩ | ⟨_, _, h⟩ | ⟨_, _, _, h⟩ | ⟨_, _, _, h⟩ | ⟨hi, _, _, h⟩ <;> rw [h] <;> simp only
  · omega
  · omega
  · omega
  · omega
  · have := wrote_len s ep at_ b hi
    have := hi.2.2.2.2
    omega
theorem sealF_len (s : S3) (ep : Int) (hs : 0 ≤ s.1) : (sealF s ep).2.2.2.length ≤ s.2.2.length + 10 := by
  rcases sealF_cases s ep hs with ⟨_, r, _, h⟩ | ⟨_, _, h⟩ <;> rw [h] <;> simp only
  · omega
  · have q1 := sealP_len ep.toNat
    have q2 := frame_len (sealP ep.toNat)
    rw [List.length_append]
    omega
theorem writeF_epoch (s : S3) (ep at_ : Int) (b : List Int) : (writeF s ep at_ b).2.1 = s.1 := by
  rcases writeF_cases s ep at_ b with ⟨_, h⟩ | ⟨_, _, h⟩ | ⟨_, _, _, h⟩ | ⟨_, _, _, h⟩ | ⟨_, _, _, h⟩ <;> rw [h] <;> rfl
theorem look_wrote (s : S3) (ep at_ : Int) (b : List Int) (a : Int) : look (wrote s ep at_ b).2.1 a = if at_ = a then some (at_, ep, b) else look s.2.1 a := look_put _ _ _
/-- The tail's meaning at few cells. -/
theorem tail_one (c : B3) (h : 0 ≤ c.1) : IsTail [c] (c.1 + 1) := ⟨by omega, fun x hx => by rw [List.mem_singleton.1 hx]; exact Int.le_refl _, .inr ⟨c, by simp, rfl⟩⟩
theorem all_len {m : List B3} {out : List C4} (h : IsAll m out) (c : B3) (hm : m = [c]) : out.length = 1 := by
  obtain ⟨h1, h2⟩ := h
  subst hm
  match out, h1, h2 with
  | [], h1, _ => have := (h1 c).2 (by simp); simp at this
  | [x], _, _ => rfl
  | x :: y :: r, h1, h2 =>
    exfalso
    have e1 : x.c3 = c := by simpa using (h1 x.c3).1 (by simp)
    have e2 : y.c3 = c := by simpa using (h1 y.c3).1 (by simp)
    have := (List.pairwise_cons.1 h2).1 y (by simp)
    have e3 : x.at_ = y.at_ := congrArg (fun (t : B3) => t.1) (e1.trans e2.symm)
    omega
end Go.Proofs.Ytdfpcldoakbehaa.Slot
/- 'shown' of chapter 8's statements. -/
namespace Go.Proofs.Ytdfpcldoakbehaa.Slot
open Go.RowKit Go.Maps Go.Proofs.YtdfpcldoakbehaaW.PrintWords Go.Proofs.YtdfpcldoakbehaaW.PrintMore Go.Proofs.YtdfpcldoakbehaaW.PrintLast Go.Proofs.Ytdfpcldoakbehaa.Row Go.Proofs.Ytdfpcldoakbehaa.Cut Go.Proofs.Ytdfpcldoakbehaa.DiskM Go.Proofs.Ytdfpcldoakbehaa.Quor
open Go.Proofs.Ytdfpcldoakbehaa.Crc
theorem lit_C (w : World) (k : IntKind) (e : TypeId) (xs : List Int) (h : xs.length ≤ 9223372036854775807) : (Kd.int k).C (w.alloc (.cells (nums k xs).toArray e)) (some ⟨w.heap.size, 0, none⟩) xs.length xs := by
  refine ⟨rfl, h, fun _ => ⟨_, rfl, fun j p hj => ⟨[.int k p], rfl, rfl, fun i u hu => ?_⟩⟩⟩
  obtain ⟨rfl, rfl⟩ : i = 0 ∧ u = .int k p := by
    cases i with
    | zero => exact ⟨rfl, by simpa using hu.symm⟩
    | succ i => simp at hu
  have e1 : (Kd.int k).sz = 1 := rfl
  rw [e1, Nat.mul_one, Nat.add_zero, add_plain, blk_cell (heap_alloc_new w _)]
  simp [nums, hj]
def t0 : S3 := (0, [], [])
def t1 : S3 := (0, [(3, 0, [7])], (writeF t0 0 3 [7]).2.2.2)
def t2 : S3 := (2, [(3, 0, [7])], t1.2.2 ++ frameF (sealP 2))
theorem sh1 : writeF t0 0 3 [7] = (0, t1) := by decide +kernel
theorem sh2 : writeF t1 0 3 [8] = (12, t1) := by decide +kernel
theorem sh3 : sealF t1 2 = (0, t2) := by decide +kernel
theorem sh4 : writeF t2 1 4 [9] = (7, t2) := by decide +kernel
theorem sh5 : (writeF t2 2 3 [8]).1 = 0 := by decide +kernel
theorem sh5c : (writeF t2 2 3 [8]).2.2.1 = [(3, 2, [8])] := by decide +kernel
theorem sl1 : t1.2.2.length < 100 := by decide +kernel
theorem sl2 : t2.2.2.length < 100 := by decide +kernel
theorem by1 (x : Int) (h : 0 ≤ x ∧ x ≤ 255) : ∀ y ∈ [x], 0 ≤ y ∧ y ≤ 255 := fun y hy => by rw [List.mem_singleton.1 hy]; exact h
set_option maxRecDepth 1000000 in
set_option maxHeartbeats 8000000 in
theorem shown_calls (w : World) : Calls Try.prog 8 #[] w fun e w' => e = .returned (.bool true) ∧ Below w.heap.size w w' := by
  have hnew := new_ok (w0 := w) 1000 (Below.refl _ _) (by omega) (by omega)
  have HW0 := Lib.hid (Below.refl w.heap.size w)
  go_enter Try.func8, Try.ntmps8
  go_wp2_with fail
  refine hnew.mono ?_
  rintro e w1 ⟨rfl, D1, B1⟩
  generalize w.heap.size = gd at D1 B1
  have hop := open_new D1
  clear hnew D1 B1
  go_wp2_with fail
  refine hop.mono ?_
  rintro e w2 ⟨n, g, rfl, N, _⟩
  have hw1 := write_ns' (N.below ((Below.refl _ _).alloc (Nat.le_refl _) (.cells (nums .u8 [7]).toArray 5))) 0 3 (some ⟨w2.heap.size, 0, none⟩) 1 [7] (lit_C _ _ _ _ (by decide)) (by decide) (by1 _ (by omega)) (by decide) (by decide)
  clear hop N
  go_wp2_with fail
  refine hw1.mono ?_
  rintro e w3 ⟨n3, rfl, N, _⟩
  rw [show writeF (0, [], []) 0 3 [7] = (0, t1) from sh1] at N ⊢
  have l1 := sl1
  have hw2 := write_ns' (N.below ((Below.refl _ _).alloc (Nat.le_refl _) (.cells (nums .u8 [8]).toArray 5))) 0 3 (some ⟨w3.heap.size, 0, none⟩) 1 [8] (lit_C _ _ _ _ (by decide)) (by decide) (by1 _ (by omega)) (by decide) (by simp only [List.length_singleton]; omega)
  clear hw1 N
  go_wp2_with fail
  refine hw2.mono ?_
  rintro e w4 ⟨n4, rfl, N, _⟩
  rw [sh2] at N ⊢
  have hs := seal_ns N 2 (by simp only; omega)
  clear hw2 N
  go_wp2_with fail
  refine hs.mono ?_
  rintro e w5 ⟨v, out, n5, rfl, R, _, hA, N, _⟩
  rw [sh3] at N hA ⊢
  rw [if_pos rfl] at hA
  have hl := all_len hA _ rfl
  obtain ⟨A, c, rfl⟩ := Kd.R_slice R
  rw [hl]
  have l2 := sl2
  have hw3 := write_ns' (N.below ((Below.refl _ _).alloc (Nat.le_refl _) (.cells (nums .u8 [9]).toArray 5))) 1 4 (some ⟨w5.heap.size, 0, none⟩) 1 [9] (lit_C _ _ _ _ (by decide)) (by decide) (by1 _ (by omega)) (by decide) (by simp only [List.length_singleton]; omega)
  clear hs N R hA hl
  go_wp2_with fail
  refine hw3.mono ?_
  rintro e w6 ⟨n6, rfl, N, _⟩
  rw [sh4] at N ⊢
  have hw4 := write_ns' (N.below ((Below.refl _ _).alloc (Nat.le_refl _) (.cells (nums .u8 [8]).toArray 5))) 2 3 (some ⟨w6.heap.size, 0, none⟩) 1 [8] (lit_C _ _ _ _ (by decide)) (by decide) (by1 _ (by omega)) (by decide) (by simp only [List.length_singleton]; omega)
  clear hw3 N
  go_wp2_with fail
  refine hw4.mono ?_
  rintro e w7 ⟨n7, rfl, N, _⟩
  rw [sh5]
  have ht := tail_ns N
  rw [sh5c] at ht
  have HN := Lib.hid N
  clear hw4 N
  go_wp2_with fail
  refine ht.mono ?_
  rintro e w8 ⟨t, rfl, hT, hb⟩
  obtain rfl : t = 4 := IsTail.uniq hT (tail_one (3, 2, [8]) (by decide))
  have HB := Lib.hid (below_step HN.out.all hb)
  clear ht hT hb
  go_wp2_with fail
  go_ret
  exact ⟨rfl, HB.out⟩
end Go.Proofs.Ytdfpcldoakbehaa.Slot
