import Derived.Test.YtdfpcldoakbehaaSSOpen
import Derived.Maps.RangeWalk
/- The walk of slot.Open. -/
namespace Go.Proofs.Ytdfpcldoakbehaa.Slot
open Go.RowKit Go.Maps Go.Proofs.YtdfpcldoakbehaaW.PrintWords Go.Proofs.YtdfpcldoakbehaaW.PrintMore Go.Proofs.Ytdfpcldoakbehaa.Row Go.Proofs.Ytdfpcldoakbehaa.Cut Go.Proofs.Ytdfpcldoakbehaa.DiskM Go.Proofs.Ytdfpcldoakbehaa.Quor
open Go.Proofs.Ytdfpcldoakbehaa.Crc (scanF scanGo openF openF_ok KB)
theorem openF_mem (l : List Int) : ∀ x ∈ (openF l).1, x ∈ l := by
  intro x hx
  unfold openF at hx
  simp only at hx
  split at hx
  · cases hx
  · split at hx
    · cases hx
    · split at hx
      · cases hx
      · split at hx
        · cases hx
        · exact List.mem_of_mem_drop (List.mem_of_mem_take hx)
theorem scanGo_mem : ∀ (k : Nat) (l : List Int) (p : Nat), ∀ x ∈ (scanGo k l p).1, x.length ≤ 4096 ∧ ∀ y ∈ x, y ∈ l
  | 0, l, p, x, hx => by simp [scanGo] at hx
  | k + 1, l, p, x, hx => by
    unfold scanGo at hx
    by_cases h : p < l.length
    · rw [if_pos h] at hx
      by_cases h2 : (openF (l.drop p)).2.2 ≠ 0
      · rw [if_pos h2] at hx; cases hx
      · rw [if_neg h2] at hx
        rcases List.mem_cons.1 hx with rfl | hx
        · exact ⟨(openF_ok (l.drop p) (by simpa using h2)).2.2, fun y hy => List.mem_of_mem_drop (openF_mem _ y hy)⟩
        · exact scanGo_mem k l _ x hx
    · rw [if_neg h] at hx; cases hx
/-- What payloads make of a new node. -/
def foldF (l : List (List Int)) : Int × List B3 := l.foldl redoF (0, [])
theorem foldF_snoc (l : List (List Int)) (x : List Int) : foldF (l ++ [x]) = redoF (foldF l) x := by unfold foldF; rw [List.foldl_append]; rfl
/-- A disk's blocks. -/
def DB (gd : Nat) (vd : Value) (k : Nat) : Prop := k = gd ∨ some k = vd.ownBlock
def OpenP (w0 w : World) (gd : Nat) (vd : Value) (room : Int) (bs : List Int) (e : Ending) (w' : World) : Prop :=
  ∃ n ep m, n.gd = gd ∧ e = .returned (.pointer (some ⟨n.gn, 0, none⟩)) ∧ Nd w0 w' n room (bs.take (scanF bs).2) (bs.take (scanF bs).2).length ep m ∧ (ep, m.map C4.c3) = foldF (scanF bs).1 ∧ Stp w w' (DB gd vd) (SN n)
theorem Nd.new {w0 w : World} {sg gd : Nat} {vr vd : Value} {room : Int} {bs : List Int} {safe : Nat} (h : Sg w0 w sg gd vr vd room bs safe) :
    Nd w0 ((w.alloc (.map #[] 0)).alloc (.cells #[.pointer (some ⟨sg, 0, none⟩), .int .i64 0, .map (some w.heap.size)] 56)) ⟨w.heap.size + 1, sg, gd, w.heap.size, vr, vd⟩ room bs safe 0 [] := by
  have hb := ((Below.refl w.heap.size w).alloc (Nat.le_refl _) (.map #[] 0)).alloc (by simp) (.cells #[.pointer (some ⟨sg, 0, none⟩), .int .i64 0, .map (some w.heap.size)] 56)
  have hlo := h.disk.below.size
  refine ⟨h.below hb, (show w0.heap.size ≤ w.heap.size + 1 by omega), hlo, ?_, ⟨_, (World.ownsMap_made w Try.prog 3 RC4).alloc _, Agr.nil⟩, List.Pairwise.nil, fun _ hz => (by cases hz), ⟨by decide, by decide⟩, fun _ hz => (by cases hz)⟩
  have := heap_alloc_new (w.alloc (.map #[] 0)) (.cells #[.pointer (some ⟨sg, 0, none⟩), .int .i64 0, .map (some w.heap.size)] 56)
  simpa using this
theorem SS.of_fr {w w' : World} {sg gd : Nat} {vr vd vd' : Value} (hsg : w.heap.size ≤ sg) (hf : Fr w w' gd vd vd') (hvr : ∀ k, vr.ownBlock = some k → w.heap.size ≤ k) {k : Nat} (hk : SS sg gd vr vd' k) : DB gd vd k ∨ w.heap.size ≤ k := by
  rcases hk with e | e | e | e
  · exact .inl (.inl e)
  · rcases hf.2.2 with q | q | ⟨b, q, hb⟩
    · rw [q] at e; cases e
    · exact .inl (.inr (e.trans q))
    · rw [q] at e; injection e with e; exact .inr (by omega)
  · exact .inr (by omega)
  · exact .inr (hvr k e.symm)
set_option maxRecDepth 1000000 in
set_option maxHeartbeats 8000000 in
theorem open_calls {w0 w : World} {gd : Nat} {vd : Value} {room : Int} {bs : List Int} {safe : Nat} (D : Dk w0 w gd vd room bs safe) :
    Calls Try.prog 10 #[.pointer (some ⟨gd, 0, none⟩)] w (OpenP w0 w gd vd room bs) := by
  have hmm := @run_makeMap Try.prog
  have hop := sopen_calls D
  have hbl : (bs.length : Int) ≤ 1048576 := by have := D.fit; have := D.room1; omega
  have HBy := Lib.hid D.byte
  go_enter Try.func10, Try.ntmps10
  go_wp2_with fail
  refine hop.mono ?_
  rintro e w1 ⟨sg, A, c, vd', rfl, hsg, hc, hK, hS, hF, hvr⟩
  obtain ⟨rows, hrows⟩ : ∃ rows, rows = (scanF bs).1 := ⟨_, rfl⟩
  obtain ⟨en, hen⟩ : ∃ en, en = (scanF bs).2 := ⟨_, rfl⟩
  have hrm : ∀ x ∈ rows, x.length ≤ 4096 ∧ ∀ y ∈ x, 0 ≤ y ∧ y ≤ 255 := fun x hx => by
    obtain ⟨q1, q2⟩ := scanGo_mem (bs.length + 1) bs 0 x (by rw [hrows] at hx; exact hx)
    exact ⟨q1, fun y hy => HBy.out y (q2 y hy)⟩
  have hOP : ∀ (e : Ending) (w' : World) (n : NB) (ep : Int) (m : List C4), n.gd = gd → e = .returned (.pointer (some ⟨n.gn, 0, none⟩)) → Nd w0 w' n room (bs.take en) (bs.take en).length ep m → (ep, m.map C4.c3) = foldF rows → Stp w w' (DB gd vd) (SN n) → OpenP w0 w gd vd room bs e w' := by
    rw [hrows, hen]; exact fun e w' n ep m h1 h2 h3 h4 h5 => ⟨n, ep, m, h1, h2, h3, h4, h5⟩
  have hrl : rows.length ≤ 1048576 := by
    have h1 := scan_len bs
    have h2 := (Crc.scanF_more bs []).2.2
    rw [hrows]; omega
  rw [← hrows] at hK hS hc hvr
  rw [← hen] at hS
  obtain ⟨rn, hrn⟩ : ∃ rn, rn = rows.length := ⟨_, rfl⟩
  rw [← hrn] at hK hS hc hvr hrl
  have hN := Nd.new hS
  have hbn := ((Below.refl w1.heap.size w1).alloc (Nat.le_refl _) (.map #[] 0)).alloc (by simp) (.cells #[.pointer (some ⟨sg, 0, none⟩), .int .i64 0, .map (some w1.heap.size)] 56)
  have hst : Stp w ((w1.alloc (.map #[] 0)).alloc (.cells #[.pointer (some ⟨sg, 0, none⟩), .int .i64 0, .map (some w1.heap.size)] 56)) (DB gd vd) (SN ⟨w1.heap.size + 1, sg, gd, w1.heap.size, .slice A rn c, vd'⟩) := by
    have h1 := hF.1
    refine ⟨Nat.le_trans h1 hbn.size, fun k hk hs => (hbn.block k (by omega)).trans (hF.2.1 k hk (fun e => hs (.inl e)) (fun e => hs (.inr e))), fun k hk => ?_⟩
    rcases hk with e | e | e
    · exact SS.of_fr hsg hF hvr e
    · exact .inr (by simp only at e; omega)
    · exact .inr (by simp only at e; omega)
  obtain ⟨tt, hblk⟩ := hS.blk
  have HW := Lib.hid (And.intro hN hst)
  have HK := Lib.hid (And.intro hblk hK)
  have HOP := Lib.hid hOP
  have HRm := Lib.hid hrm
  have HRn := Lib.hid hrn
  have HBn := Lib.hid hbn
  clear hop hK hS hF hvr hN hst hblk hOP hrm hrn hbn hrows hen D hbl
  have hblk2 := (HBn.out.block sg (Array.getElem?_eq_some_iff.1 HK.out.1).1).trans HK.out.1
  have hln := slen_calls hblk2
  have hrli : (rn : Int) ≤ 1048576 := by omega
  clear hblk2
  go_wp2_with fail
  refine hln.mono ?_
  rintro e wx ⟨rfl, rfl⟩
  clear hln
  go_wp2_with fail
  go_loopw [17] (fun i wx => ∃ (k : Nat) (ep : Int) (m : List C4), k ≤ rn ∧ i = .int .i64 k ∧ Nd w0 wx ⟨w1.heap.size + 1, sg, gd, w1.heap.size, .slice A rn c, vd'⟩ room (bs.take en) (bs.take en).length ep m ∧ (ep, m.map C4.c3) = foldF (rows.take k) ∧ Stp ((w1.alloc (.map #[] 0)).alloc (.cells #[.pointer (some ⟨sg, 0, none⟩), .int .i64 0, .map (some w1.heap.size)] 56)) wx (NM ⟨w1.heap.size + 1, sg, gd, w1.heap.size, .slice A rn c, vd'⟩) (NM ⟨w1.heap.size + 1, sg, gd, w1.heap.size, .slice A rn c, vd'⟩)) (fun i _ => rn - (intOf i).toNat)
  case atStart => exact ⟨0, 0, [], Nat.zero_le _, rfl, HW.out.1, rfl, Stp.refl _ _⟩
  case round =>
    obtain ⟨k, ep, m, hk, rfl, hN, hm, hst⟩ := hrel
    rename World => wx
    have HN := Lib.hid hN; have HM := Lib.hid hm; have HSt := Lib.hid hst
    have hlow : ∀ k, k < w1.heap.size → wx.heap[k]? = w1.heap[k]? := fun k hk => (hst.keep k (by simp; omega) (fun e => by rcases e with e | e <;> simp only at e <;> omega)).trans (HBn.out.block k hk)
    obtain ⟨q0, q1, q2, qf⟩ := hN.cells
    simp only at q0
    have hsg1 := (Array.getElem?_eq_some_iff.1 HK.out.1).1
    have hbk := (hlow sg hsg1).trans HK.out.1
    have HLow := Lib.hid hlow
    clear hN hm hst hlow q1 q2 qf
    by_cases hlt : k < rn
    · have hlti : (k : Int) < (rn : Int) := by omega
      have hkr : k < rows.length := by have := HRn.out; omega
      obtain ⟨x, hx⟩ : ∃ x, rows[k]? = some x := ⟨_, List.getElem?_eq_getElem hkr⟩
      have hxm := HRm.out x (List.mem_of_getElem? hx)
      have hKx := Kd.Heap.C (Kd.heap_slice 5 (Kd.heap_int .u8)) (fun k hk => HLow.out k hk) HK.out.2
      have hgt := sget_calls hbk hKx k hlt x hx (by omega)
      have HX := Lib.hid (And.intro hx hxm)
      clear hkr hx hxm hKx hbk
      go_wp2_with fail
      refine hgt.mono ?_
      rintro e w5 ⟨v5, rfl, hrow5, hb5⟩
      obtain ⟨A5, c5, hv5, hc5, hC5⟩ := hrow5.reads
      subst hv5
      have hrd := redo_calls (HN.out.below hb5) A5 c5 x hC5 HX.out.2.2 (by have := HX.out.2.1; omega)
      have HB5 := Lib.hid hb5
      clear hgt hrow5 hb5 hC5 q0
      go_wp2_with fail
      refine hrd.mono ?_
      rintro e w6 ⟨ep', m', rfl, hf, hN6, hst6⟩
      have hfin : (ep', m'.map C4.c3) = foldF (rows.take (k + 1)) := by
        rw [hf, HM.out, take_snoc'' HX.out.1, foldF_snoc]
      have HF := Lib.hid (And.intro hN6 (And.intro hfin (HSt.out.trans ((Stp.of_below _ HB5.out).trans hst6))))
      clear hrd hf hN6 hst6 hfin
      go_wp2_with fail
      go_roundw
      case rel => exact ⟨k + 1, ep', m', by omega, by go_num, HF.out⟩
      case measure => simp [intOf]; omega
    · obtain rfl : k = rn := by omega
      have hfin : (ep, m.map C4.c3) = foldF rows := by rw [HM.out, List.take_of_length_le (by have := HRn.out; omega)]
      have HFin := Lib.hid hfin
      clear hfin hbk q0
      go_wp2_with fail
      go_ret
      exact HOP.out _ _ ⟨w1.heap.size + 1, sg, gd, w1.heap.size, .slice A k c, vd'⟩ ep m rfl rfl HN.out HFin.out (HW.out.2.trans (NM.all HSt.out))
end Go.Proofs.Ytdfpcldoakbehaa.Slot
