import Derived.Test.YtnnahbmhjjamcaaQNeed
/- Rows of rows of cells; few; First. -/
namespace Go.Proofs.Ytnnahbmhjjamcaa.Quor
open Go.RowKit Go.Maps Go.Proofs.YtnnahbmhjjamcaaW.PrintWords Go.Proofs.Ytnnahbmhjjamcaa.Cut
/-- A row of cells that is known, as a value. -/
structure RD where
  x : List C3
  A : Option Addr
  c : Nat
def RD.rd (w : World) (d : RD) : Prop := d.x.length ≤ d.c ∧ KC.C w d.A d.x.length d.x
theorem RD.rd_below {w w' : World} {d : RD} (h : d.rd w) (hb : Below w.heap.size w w') : d.rd w' := ⟨h.1, Kd.C_below h.2 hb⟩
def K1 : Kd RD where
  sz := 1
  E := []
  K := fun _ d cs => cs = [.slice d.A d.x.length d.c]
  M := fun _ _ _ d cs => cs = [.slice d.A d.x.length d.c]
  K_len := fun h => by rw [h]; rfl
  K_one := fun h => by rw [h]; intro u hu; rw [List.mem_singleton.1 hu]; rfl
  K_below := fun _ h => h
  K_of_M := fun h => h
  M_mono := fun _ h => h
  M_bound := fun h => h
  M_move := fun _ h => h
  M_lower := fun _ h => h
theorem infoRow : (Try.prog.info? 31).map (fun i => (i.zero, i.size, i.bytes)) = some (some (.slice none 0 0), 1, 24) := by kernel_rfl
theorem C_of_K1 {w : World} {A : Option Addr} {ds : List RD} (hC : K1.C w A ds.length ds) (hr : ∀ d ∈ ds, d.rd w) : (Kd.slice 28 KC).C w A (ds.map RD.x).length (ds.map RD.x) := by
  obtain ⟨h1, h2, h3⟩ := hC
  refine ⟨rfl, by rw [List.length_map]; exact h2, fun hn => ?_⟩
  obtain ⟨ad, hA, hc⟩ := h3 (by simpa using hn)
  refine ⟨ad, hA, fun j p hj => ?_⟩
  rw [List.getElem?_map] at hj
  obtain ⟨d, hd, rfl⟩ := Option.map_eq_some_iff.1 hj
  obtain ⟨cs, k1, k2, k3⟩ := hc j d hd
  obtain rfl : cs = [.slice d.A d.x.length d.c] := k2
  obtain ⟨r1, r2⟩ := hr d (List.mem_of_getElem? hd)
  exact ⟨_, rfl, ⟨d.A, d.c, rfl, r1, r2⟩, k3⟩
theorem at_K1 {w : World} {A : Option Addr} {n : Nat} {ds : List RD} (h : K1.C w A n ds) (i : Nat) (hi : i < n) : ∃ ad d, A = some ad ∧ ds[i]? = some d ∧ w.cell? (ad.add i) = some (.slice d.A d.x.length d.c) := by
  obtain ⟨hl, _, h⟩ := h
  obtain ⟨ad, hA, hc⟩ := h (by omega)
  have hil : i < ds.length := by omega
  obtain ⟨cs, _, hk, hat⟩ := hc i (ds[i]) (List.getElem?_eq_getElem hil)
  obtain rfl : cs = [.slice ds[i].A ds[i].x.length ds[i].c] := hk
  have h0 := hat 0 _ rfl
  have e1 : K1.sz = 1 := rfl
  rw [e1, Nat.mul_one, Nat.add_zero] at h0
  exact ⟨ad, ds[i], hA, List.getElem?_eq_getElem hil, h0⟩
def fewM (ls : List (List C3)) : List (List C3) := (ls.take 9).map fun l => l.take 200
theorem fewM_snoc {ls : List (List C3)} {k : Nat} {l : List C3} (h : ls[k]? = some l) : (ls.take (k + 1)).map (fun l => l.take 200) = (ls.take k).map (fun l => l.take 200) ++ [l.take 200] := by
  rw [take_snoc'' h, List.map_append]; rfl
set_option maxHeartbeats 4000000 in
theorem few_calls (ls : List (List C3)) (A : Option Addr) (c : Nat) (w : World) (hC : (Kd.slice 28 KC).C w A ls.length ls) :
    Calls Try.prog 11 #[.slice A ls.length c] w fun e w' => ∃ v ds, e = .returned v ∧ K1.R 31 w' w.heap.size (fun _ => True) v ds ∧ (∀ d ∈ ds, d.rd w) ∧ ds.map RD.x = fewM ls ∧ Below w.heap.size w w' := by
  have HC := Lib.hid hC
  have hlm : ls.length ≤ 9223372036854775807 := hC.2.1
  obtain ⟨n, hnl⟩ : ∃ n, n = ls.length := ⟨_, rfl⟩
  rw [← hnl] at HC hlm ⊢
  have HN := Lib.hid hnl
  clear hC hnl
  go_enter Try.func11, Try.ntmps11
  go_wp2
  go_loopw [3, 4] (fun v i wx => ∃ (k : Nat) (ds : List RD), k ≤ n ∧ k ≤ 9 ∧ i = .int .i64 k ∧ K1.R 31 wx w.heap.size (fun _ => True) v ds ∧ (∀ d ∈ ds, d.rd w) ∧ ds.map RD.x = (ls.take k).map (fun l => l.take 200) ∧ Below w.heap.size w wx) (fun _ i _ => n - (intOf i).toNat)
  case atStart => exact ⟨0, [], Nat.zero_le _, Nat.zero_le _, rfl, Kd.R_nil _ _ _ _ _, by simp, rfl, Below.refl _ _⟩
  case round =>
    obtain ⟨k, ds, hk, hk9, rfl, hR, hds, hm, hB⟩ := hrel
    by_cases hlt : k < n ∧ k < 9
    · obtain ⟨hlt1, hlt2⟩ := hlt
      have hlti : (k : Int) < (n : Int) := by omega
      have hlt2i : (k : Int) < 9 := by omega
      have hk0 : (0 : Int) ≤ (k : Int) := by omega
      obtain ⟨ad, l, B, d, rfl, hl, a0, hlc, hCl⟩ := at_KR HC.out k hlt1
      have a0 := cell_step (grown_of_below hB) a0 (by simp)
      have hsn := fewM_snoc hl
      have hlm2 : l.length ≤ 9223372036854775807 := hCl.2.1
      have hdl : ds.length ≤ 9 := by
        have h1 := congrArg List.length hm
        rw [List.length_map, List.length_map] at h1
        have := List.length_take_le k ls
        omega
      have hl24 : (ds.length + 1) * 24 ≤ 140737488355328 := by omega
      have HX := Lib.hid (And.intro hR (And.intro hds (And.intro hm (And.intro hB hsn))))
      have hbs := hB.size
      clear hR hds hm hB hsn hl
      by_cases h200 : 200 < l.length
      · obtain ⟨R, hR200, hC2, hR2, hcut⟩ := head_cut (P := Try.prog) (d := KC) 31 28 .i64 Try.underlying31 infoCell hCl hlc 200 200 rfl (by omega)
        have h2i : (200 : Int) < (l.length : Int) := by omega
        have HD := Lib.hid (show RD.rd w ⟨R, B, d⟩ from ⟨hR2, hC2⟩)
        have HR2 := Lib.hid hR200
        clear hC2 hR2 hCl hR200
        go_wp2_with (first
          | ((with_reducible refine gate_builtin (b := .append) (xs := #[.tmp 25, .tmp 27]) rfl ?_); at_builtin; refine Kd.R_append K1 (w0 := w) w.heap.size rfl (.tmp 25) (.tmp 27) 29 31 (.slice none 0 0) 24 rfl Try.underlying29 infoRow rfl (by decide) (by decide) u3 ds ⟨R, B, d⟩ [.slice B R.length d] (fun _ => True) (fun _ => False) rfl rfl rfl (fun _ hk => hk.elim) (fun _ _ => trivial) HX.out.1 HX.out.2.2.2.1 hbs hl24 ?_; intro v1 w4 hR4 hb4 hg4 hat4)
          | go_in)
        go_roundw
        case rel =>
          refine ⟨k + 1, ds ++ [⟨R, B, d⟩], by omega, by omega, by go_num, hR4, ?_, by rw [HX.out.2.2.2.2, List.map_append, HX.out.2.2.1, ← HR2.out]; rfl, hb4⟩
          intro y hy
          rcases List.mem_append.1 hy with hy | hy
          · exact HX.out.2.1 y hy
          · obtain rfl : y = ⟨R, B, d⟩ := by simpa using hy
            exact HD.out
        case measure => simp [intOf]; omega
      · have h2i : ¬ (200 : Int) < (l.length : Int) := by omega
        have HD := Lib.hid (show RD.rd w ⟨l, B, d⟩ from ⟨hlc, hCl⟩)
        have HR2 := Lib.hid (show l.take 200 = l from List.take_of_length_le (by omega))
        clear hCl h200
        go_wp2_with (first
          | ((with_reducible refine gate_builtin (b := .append) (xs := #[.tmp 25, .tmp 27]) rfl ?_); at_builtin; refine Kd.R_append K1 (w0 := w) w.heap.size rfl (.tmp 25) (.tmp 27) 29 31 (.slice none 0 0) 24 rfl Try.underlying29 infoRow rfl (by decide) (by decide) u3 ds ⟨l, B, d⟩ [.slice B l.length d] (fun _ => True) (fun _ => False) rfl rfl rfl (fun _ hk => hk.elim) (fun _ _ => trivial) HX.out.1 HX.out.2.2.2.1 hbs hl24 ?_; intro v1 w4 hR4 hb4 hg4 hat4)
          | go_in)
        go_roundw
        case rel =>
          refine ⟨k + 1, ds ++ [⟨l, B, d⟩], by omega, by omega, by go_num, hR4, ?_, by rw [HX.out.2.2.2.2, List.map_append, HX.out.2.2.1, HR2.out]; rfl, hb4⟩
          intro y hy
          rcases List.mem_append.1 hy with hy | hy
          · exact HX.out.2.1 y hy
          · obtain rfl : y = ⟨l, B, d⟩ := by simpa using hy
            exact HD.out
        case measure => simp [intOf]; omega
    · have hfin : ds.map RD.x = fewM ls := by
        rw [hm]
        unfold fewM
        by_cases h9 : k < 9
        · have : k = n := by omega
          rw [List.take_of_length_le (l := ls) (by rw [this, HN.out]; exact Nat.le_refl _), List.take_of_length_le (l := ls) (by rw [← HN.out]; omega)]
        · have : k = 9 := by omega
          rw [this]
      have HX := Lib.hid (And.intro hR (And.intro hds (And.intro hfin hB)))
      clear hR hds hm hB hfin
      by_cases hk1 : k < n
      all_goals
        try have hk2 : (9 : Int) ≤ (k : Int) := by omega
        try have hk3 : (n : Int) ≤ (k : Int) := by omega
        try have hk4 : (k : Int) < (n : Int) := by omega
        clear hlt
        go_wp2
        go_ret
        exact ⟨u3, ds, rfl, HX.out.1, HX.out.2.1, HX.out.2.2.1, HX.out.2.2.2⟩
end Go.Proofs.Ytnnahbmhjjamcaa.Quor
