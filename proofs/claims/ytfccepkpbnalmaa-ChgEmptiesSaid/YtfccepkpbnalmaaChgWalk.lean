import Derived.Test.YtfccepkpbnalmaaChgSort
import Derived.Test.YtfccepkpbnalmaaCut
import Derived.Test.YtfccepkpbnalmaaWWords
import Derived.Test.YtfccepkpbnalmaaWMore
import Derived.Test.YtfccepkpbnalmaaWAt
import Derived.Deep.DeepCutAuto
import Derived.Deep.CutBlock
import Derived.OwnWalk
import Derived.Lib.Hide
import Derived.BigRegion
/- The walk of chg.Last. -/
namespace Go.Proofs.Ytfccepkpbnalmaa.Chg
open Go.RowKit Go.Proofs.YtfccepkpbnalmaaW.PrintWords Go.Proofs.YtfccepkpbnalmaaW.PrintMore Go.Proofs.Ytfccepkpbnalmaa.Cut
theorem at_C5 {w : World} {A : Option Addr} {n : Nat} {l : List T5} (h : K5.C w A n l) (i : Nat) (hi : i < n) : ∃ ad x, A = some ad ∧ l[i]? = some x ∧ w.cell? (ad.add (i * 5)) = some (.int .i64 x.1) ∧ w.cell? ⟨(ad.add (i * 5)).block, (ad.add (i * 5)).off + 1, none⟩ = some (.int .i64 x.2.1) ∧
    w.cell? ⟨(ad.add (i * 5)).block, (ad.add (i * 5)).off + 2, none⟩ = some (.int .i64 x.2.2.1) ∧ w.cell? ⟨(ad.add (i * 5)).block, (ad.add (i * 5)).off + 3, none⟩ = some (.int .i64 x.2.2.2.1) ∧ w.cell? ⟨(ad.add (i * 5)).block, (ad.add (i * 5)).off + 4, none⟩ = some (.bool x.2.2.2.2) := by
  obtain ⟨hl, _, h⟩ := h
  obtain ⟨ad, hA, hc⟩ := h (by omega)
  have hil : i < l.length := by omega
  obtain ⟨cs, _, hk, hat⟩ := hc i (l[i]) (List.getElem?_eq_getElem hil)
  have e1 : K5.sz = 5 := rfl
  rw [e1] at hat
  obtain ⟨_, _, rfl, rfl, ⟨_, _, rfl, rfl, ⟨_, _, rfl, rfl, ⟨_, _, rfl, rfl, rfl⟩⟩⟩⟩ := hk
  refine ⟨ad, l[i], hA, List.getElem?_eq_getElem hil, hat 0 _ rfl, ?_, ?_, ?_, ?_⟩
  · rw [← add_field _ _ 1 (by omega)]; exact hat 1 _ rfl
  · rw [← add_field _ _ 2 (by omega)]; exact hat 2 _ rfl
  · rw [← add_field _ _ 3 (by omega)]; exact hat 3 _ rfl
  · rw [← add_field _ _ 4 (by omega)]; exact hat 4 _ rfl
theorem take_snoc5 {l : List T5} {k : Nat} {x : T5} (h : l[k]? = some x) : l.take (k + 1) = l.take k ++ [x] := by
  obtain ⟨hl, rfl⟩ := List.getElem?_eq_some_iff.1 h
  exact List.take_succ_eq_append_getElem hl
theorem cells_new5 {w W : World} {a b c d : Int} {e : Bool} {t : TypeId} (hg : (w.alloc (.cells #[.int .i64 a, .int .i64 b, .int .i64 c, .int .i64 d, .bool e] t)).drew.grownBy W none) :
    W.cell? ⟨w.heap.size, 0, none⟩ = some (.int .i64 a) ∧ W.cell? ⟨w.heap.size, 1, none⟩ = some (.int .i64 b) ∧ W.cell? ⟨w.heap.size, 2, none⟩ = some (.int .i64 c) ∧ W.cell? ⟨w.heap.size, 3, none⟩ = some (.int .i64 d) ∧ W.cell? ⟨w.heap.size, 4, none⟩ = some (.bool e) := by
  have h := hg.block w.heap.size (by simp [World.drew]) (by simp)
  have h2 : W.heap[w.heap.size]? = some (.cells #[.int .i64 a, .int .i64 b, .int .i64 c, .int .i64 d, .bool e] t) := by
    rw [h]; exact (MapKept.heap_alloc w _).1
  unfold World.cell?
  simp [h2]
structure PP where
  p : P3
structure CC where
  c : T5
theorem val3_inj {p q : P3} (e : val3 p = val3 q) : p = q := by
  obtain ⟨a, b, c⟩ := p
  obtain ⟨d, e1, f⟩ := q
  simp only [val3, mkP, Value.agg.injEq, Array.mk.injEq, List.cons.injEq, Value.int.injEq, true_and, and_true] at e
  obtain ⟨rfl, rfl, rfl⟩ := e
  rfl
theorem Agr.at_ {D : DataW T5} {l : List T5} (h : Agr D l) {p : P3} (hp : W3 p) {c : T5} (hat : D.atKey (kl3 p) .nil = .held c) : lastAt l p = some c ∧ kp c = p := by
  rw [(h.2 p hp).1] at hat
  cases hl : lastAt l p with
  | none => rw [hl] at hat; cases hat
  | some d =>
    rw [hl] at hat
    obtain rfl : d = c := by simpa using hat
    exact ⟨rfl, (lastAt_kp hl).1⟩
theorem row_grown {w w1 : World} {base n : Nat} {v : Value} {xs : List Value} {row : Option Nat} (h : w.ownsRow base 30 5 v n xs) (hg : w.grownBy w1 row) (hne : row = none ∨ row ≠ v.ownBlock) : w1.ownsRow base 30 5 v n xs :=
  own_move h fun k hk => hg.block k (h.lt k hk).2 fun e => by
    rcases hne with h1 | h1
    · rw [h1] at e; cases e
    · exact h1 (by rw [← e, hk])
theorem row_ne_map {w : World} {base n m b : Nat} {v : Value} {xs : List Value} {D : DataW T5} (h : w.ownsRow base 30 5 v n xs) (hm : w.ownsMap Try.prog 63 RC b m D) : some b ≠ v.ownBlock := by
  obtain ⟨_, _, hit, _⟩ := hm
  rcases h.2 with ⟨rfl, _⟩ | ⟨g, cap, cur, rfl, _, hb, _⟩
  · simp [Value.ownBlock]
  · intro e1
    have : b = g := by simpa [Value.ownBlock] using e1
    subst this
    rw [hit] at hb
    cases hb
/-- The second loop's relation. -/
def Rel2 (w wx : World) (l : List T5) (r k : Nat) (D : DataW T5) (v : Value) (left : Lit → Bool) (cnt : Nat) (out : List T5) : Prop :=
  wx.ranges Try.prog 63 RC w.heap.size r k D left cnt ∧ cnt + out.length ≤ k ∧ wx.ownsRow w.heap.size 30 5 v out.length (out.flatMap encC) ∧ Coll l left out ∧ Below w.heap.size w wx
theorem info30 : (Try.prog.info? 30).map (fun i => (i.zero, i.size, i.bytes)) = some (some (.agg #[.int .i64 0, .int .i64 0, .int .i64 0, .int .i64 0, .bool false]), 5, 40) := by kernel_rfl
theorem cells_alloc5 (w : World) (a b c d : Int) (e : Bool) (t : TypeId) : let W := w.alloc (.cells #[.int .i64 a, .int .i64 b, .int .i64 c, .int .i64 d, .bool e] t)
    W.cell? ⟨w.heap.size, 0, none⟩ = some (.int .i64 a) ∧ W.cell? ⟨w.heap.size, 1, none⟩ = some (.int .i64 b) ∧ W.cell? ⟨w.heap.size, 2, none⟩ = some (.int .i64 c) ∧ W.cell? ⟨w.heap.size, 3, none⟩ = some (.int .i64 d) ∧ W.cell? ⟨w.heap.size, 4, none⟩ = some (.bool e) := by
  simp
/-- The place told, and what the store into the map will do. -/
theorem at_step (x1 x2 x3 x4 : Int) (x5 : Bool) (wr : World) (b k : Nat) (D : DataW T5) (hW : W5 (x1, x2, x3, x4, x5)) (hk : k < maxLen) (hown : (wr.alloc (.cells #[.int .i64 x1, .int .i64 x2, .int .i64 x3, .int .i64 x4, .bool x5] 30)).ownsMap Try.prog 63 RC b k D) :
    Calls Try.prog 27 #[.agg #[.int .i64 x1, .int .i64 x2, .int .i64 x3, .int .i64 x4, .bool x5]] (wr.alloc (.cells #[.int .i64 x1, .int .i64 x2, .int .i64 x3, .int .i64 x4, .bool x5] 30)).drew fun e w' =>
      e = .returned (.agg #[.int .i64 x1, .int .i64 x2, .int .i64 x3]) ∧ ∃ w2, (Instr.mapUpdate 61 (.map (some b)) (.agg #[.int .i64 x1, .int .i64 x2, .int .i64 x3]) (.agg #[.int .i64 x1, .int .i64 x2, .int .i64 x3, .int .i64 x4, .bool x5])).run Try.prog w' = .ok () w2 ∧
        Hid (w2.ownsMap Try.prog 63 RC b (k + 1) (D.put (kl3 (kp (x1, x2, x3, x4, x5))) (.held (x1, x2, x3, x4, x5))) ∧ (wr.alloc (.cells #[.int .i64 x1, .int .i64 x2, .int .i64 x3, .int .i64 x4, .bool x5] 30)).drew.grownBy w' none ∧ w'.grownBy w2 (some b)) ∧
        w'.cell? ⟨wr.heap.size, 0, none⟩ = some (.int .i64 x1) ∧ w'.cell? ⟨wr.heap.size, 1, none⟩ = some (.int .i64 x2) ∧ w'.cell? ⟨wr.heap.size, 2, none⟩ = some (.int .i64 x3) ∧ w'.cell? ⟨wr.heap.size, 3, none⟩ = some (.int .i64 x4) ∧ w'.cell? ⟨wr.heap.size, 4, none⟩ = some (.bool x5) := by
  refine (at_calls (x1, x2, x3, x4, x5) _).mono ?_
  rintro e w' ⟨rfl, hg⟩
  obtain ⟨w2, hrun, hown2, hg2⟩ := (World.ownsMap.kept hown.drew hg (by simp)).update keyedP Try.underlying61 hk (keyOf_3 hW) (RC_mk (x1, x2, x3, x4, x5))
  obtain ⟨d0, d1, d2, d3, d4⟩ := cells_new5 hg
  exact ⟨rfl, w2, hrun, Lib.hid ⟨hown2, hg, hg2⟩, d0, d1, d2, d3, d4⟩
set_option maxRecDepth 100000 in
set_option maxHeartbeats 4000000 in
theorem last_calls (A : Option Addr) (c : Nat) (l : List T5) (w : World) (hC : K5.C w A l.length l) (hW : ∀ x ∈ l, W5 x) (hn : l.length ≤ 1000000) (hc : l.length ≤ c) :
    Calls Try.prog 10 #[.slice A l.length c] w fun e w' => ∃ v, e = .returned v ∧ K5.R 30 w' w.heap.size (fun _ => True) v (lastM l) ∧ Below w.heap.size w w' := by
  have hmm := @run_makeMap Try.prog
  have HC := Lib.hid hC
  have HW := Lib.hid hW
  obtain ⟨n, hnl⟩ : ∃ n, n = l.length := ⟨_, rfl⟩
  rw [← hnl] at HC hn hc ⊢
  have HN := Lib.hid hnl
  clear hC hW hnl
  go_enter Try.func10, Try.ntmps10
  go_wp2
  go_loopw [12] (fun i wr => ∃ (k : Nat) (D : DataW T5), k ≤ n ∧ i = .int .i64 k ∧ wr.ownsMap Try.prog 63 RC w.heap.size k D ∧ Agr D (l.take k) ∧ Below w.heap.size w wr) (fun i _ => n - (intOf i).toNat)
  case atStart => exact ⟨0, .map [], Nat.zero_le _, rfl, World.ownsMap_made _ _ _ _, Agr.nil, (Below.refl _ _).alloc (Nat.le_refl _) _⟩
  case round =>
    obtain ⟨k, D, hk, rfl, hown, hA, hB⟩ := hrel
    have HO := Lib.hid hown; have HA := Lib.hid hA; have HB := Lib.hid hB
    clear hown hA hB
    by_cases hlt : k < n
    · have hlti : (k : Int) < (n : Int) := by omega
      have hk0 : (0 : Int) ≤ (k : Int) := by omega
      obtain ⟨ad, x, hA, hx, c0, c1, c2, c3, c4⟩ := at_C5 (w := wr) (Kd.C_below HC.out HB.out) k hlt
      subst hA
      obtain ⟨x1, x2, x3, x4, x5⟩ := x
      simp only at c0 c1 c2 c3 c4
      have HX := Lib.hid hx
      clear hx
      go_upto_block 1 with (fail)
      go_cut [16] (fun _ wx => ∃ D', wx.ownsMap Try.prog 63 RC w.heap.size (k + 1) D' ∧ Agr D' (l.take (k + 1)) ∧ Below w.heap.size w wx)
      case first =>
        have HW1 := Lib.hid (HW.out _ (List.mem_of_getElem? HX.out))
        have HM := HO.out.alloc (.cells #[.int .i64 x1, .int .i64 x2, .int .i64 x3, .int .i64 x4, .bool x5] 30)
        have HM2 := Lib.hid HM
        clear HM
        go_wp2
        go_region_with (
          go_at_call 27
          refine (at_step x1 x2 x3 x4 x5 wr w.heap.size k D HW1.out (by unfold maxLen; omega) HM2.out).mono ?_
          rintro e w' ⟨rfl, w2, hrun, HF, d0, d1, d2, d3, d4⟩)
        all_goals
          obtain ⟨hown2, hg, hg2⟩ := HF.out
          have hA2 := Agr.snoc HA.out (x1, x2, x3, x4, x5) HW1.out
          rw [← take_snoc5 HX.out] at hA2
          have hB2 : Below w.heap.size w w2 := by
            have b0 := HB.out
            have b1 := below_drew1 (b0.alloc b0.size (.cells #[.int .i64 x1, .int .i64 x2, .int .i64 x3, .int .i64 x4, .bool x5] 30))
            have b2 := b1.grown hg b1.size (fun j hj => by cases hj)
            exact b2.grown hg2 b2.size (fun j hj => by cases hj; exact Nat.le_refl _)
          clear hrun HF
          go_wp2
          go_meet
          case rel => exact ⟨_, hown2, hA2, hB2⟩
      case rest =>
        obtain ⟨D', hown, hA, hB⟩ := hcut
        have HO2 := Lib.hid hown; have HA2 := Lib.hid hA; have HB2 := Lib.hid hB
        clear hown hA hB
        go_wp2
        go_roundw
        case rel => exact ⟨k + 1, D', by omega, by go_num, HO2.out, HA2.out, HB2.out⟩
        case measure => simp [intOf]; omega
    · obtain rfl : k = n := by omega
      have hown := HO.out
      have hA := HA.out
      rw [List.take_of_length_le (by rw [← HN.out]; exact Nat.le_refl _)] at hA
      have HA2 := Lib.hid hA
      clear hA HA
      go_wp2_with (first
        | (at_range; refine wpList_range_own _ rfl _ 61 rfl 63 30 keyedP Try.underlying61 RC w.heap.size k D rfl hown ?_; intro w0 hrg0 hg0 hs0)
        | go_in)
      go_frame
      have hBs : w.heap.size < wr.heap.size := hown.lt
      have hB0 := HB.out.grown hg0 HB.out.size (fun j hj => by cases hj)
      obtain ⟨r, hr⟩ : ∃ r, wr.heap.size = r := ⟨_, rfl⟩
      rw [hr] at hrg0 hBs ⊢
      go_loopw [6] (fun v wx => ∃ (left : Lit → Bool) (cnt : Nat) (out : List T5), Rel2 w wx l r k D v left cnt out) (fun _ wx => wx.rangeLeft w.heap.size r)
      case atStart => exact ⟨_, _, [], hrg0, by have := hown.size_le; simpa using this, ⟨rfl, .inl ⟨rfl, rfl⟩⟩, Coll.start HA2.out HW.out, hB0⟩
      case round =>
        clear hg0 hs0 hrg0 hown hB0 HB HO
        obtain ⟨left, cnt, out, hrel⟩ := hrel
        have HR := Lib.hid hrel
        have hrg := hrel.1
        clear hrel
        go_wp2_with (first
          | (at_next; refine wpList_next_ranges _ rfl _ rfl 63 keyedP RC (fun x : PP => val3 x.p) (fun x : CC => valC x.c) (fun _ _ h => by obtain ⟨x, hx, _⟩ := keyOf_inv3 h; exact ⟨⟨x⟩, hx⟩) (fun _ _ h => by obtain ⟨x, hx, _⟩ := RC_inv h; exact ⟨⟨x⟩, hx⟩) w.heap.size r k D left cnt rfl hrg ?_ ?_)
          | go_in)
        · intro hc0 hl0
          obtain ⟨hrg', hcn, hrow, hcoll, hb⟩ := HR.out
          obtain ⟨d1, d2⟩ := hcoll.done hl0
          have HX := Lib.hid (And.intro (And.intro d1 d2) (And.intro hb hrow))
          have hon : out.length ≤ 1000000 := by omega
          clear hrg hrg' hcn hrow hcoll hb d1 d2 HR hl0
          go_wp2_with (go_at_call 28; refine (sort_calls u6 out _ w.heap.size HX.out.2.2 hon).mono ?_; rintro e w' ⟨rfl, out', hp, hs, hown', hg'⟩)
          have he := sorted_last HX.out.1.1 HX.out.1.2 hp hs
          subst he
          have hfin := HX.out.2.1.grown hg' HX.out.2.1.size (fun j hj => (HX.out.2.2.lt j hj).1)
          have HF := Lib.hid (And.intro hown' hfin)
          clear hp hs hown' hg' hfin
          go_ret
          exact ⟨u6, by simp, own_R HF.out.1, HF.out.2⟩
        · intro ⟨p⟩ ⟨c0⟩ kl y yp w1 cnt1 hkey hlk hv hat hrg1 hlt1 hg1 hs1 hen
          simp only at hkey hv hen
          obtain ⟨p', e1, rfl, hp⟩ := keyOf_inv3 hkey
          obtain rfl := val3_inj e1
          rw [RC_mk] at hv
          have hv := Option.some.inj hv
          injection hv with hv1 hv2
          subst hv1; subst hv2
          obtain ⟨q1, rfl⟩ := Agr.at_ HA2.out hp (hat .nil)
          obtain ⟨hrg, hcn, hrow, hcoll, hb⟩ := HR.out
          have hst := hcoll.step HW.out c0 hp q1 hlk
          have hrow1 := row_grown hrow hg1 (.inr (row_ne_iter hrow hrg))
          have hb1 := hb.grown hg1 hb.size (fun j hj => by cases hj; exact Nat.le_of_lt hBs)
          have HX := Lib.hid (And.intro (And.intro hrg1 (And.intro hlt1 hrg.left_eq)) (And.intro (And.intro hst hrow1) (And.intro hb1 hcn)))
          clear hrg hcn hrow hcoll hb hst hrow1 hb1 hrg1 hlt1 hg1 hs1 hkey hlk hat e1 q1 HR hp
          obtain ⟨x1, x2, x3, x4, x5⟩ := c0
          simp only [valC] at hen ⊢
          cases x5 with
          | true =>
            go_wp2
            have hc2 := HX.out.2.1.1
            rw [if_pos (show dl (x1, x2, x3, x4, true) = true from rfl)] at hc2
            have hr2 := HX.out.1.1.alloc (.cells #[.int .i64 x1, .int .i64 x2, .int .i64 x3, .int .i64 x4, .bool true] 30)
            refine ⟨⟨_, cnt1, out, hr2, ?_, row_grown HX.out.2.1.2 (World.grownBy_alloc _ _ none) (.inl rfl), hc2, HX.out.2.2.1.alloc HX.out.2.2.1.size _⟩, ?_⟩
            · have h1 := HX.out.2.2.2; have h2 := HX.out.1.2.1; omega
            · rw [hr2.left_eq, HX.out.1.2.2]; exact HX.out.1.2.1
          | false =>
            go_upto_region 12 with (fail)
            have f0 := cells_alloc5 w1 x1 x2 x3 x4 false 30
            have g0 := row_grown HX.out.2.1.2 (World.grownBy_alloc w1 (.cells #[.int .i64 x1, .int .i64 x2, .int .i64 x3, .int .i64 x4, .bool false] 30) none) (.inl rfl)
            have g1 := HX.out.2.2.1.alloc HX.out.2.2.1.size (.cells #[.int .i64 x1, .int .i64 x2, .int .i64 x3, .int .i64 x4, .bool false] 30)
            have g2 := HX.out.1.1.alloc (.cells #[.int .i64 x1, .int .i64 x2, .int .i64 x3, .int .i64 x4, .bool false] 30)
            generalize w1.alloc (.cells #[.int .i64 x1, .int .i64 x2, .int .i64 x3, .int .i64 x4, .bool false] 30) = W1 at f0 g0 g1 g2 ⊢
            obtain ⟨f0, f1, f2, f3, f4⟩ := f0
            have G0 := Lib.hid g0; have G1 := Lib.hid g1; have G2 := Lib.hid g2
            have HX2 := Lib.hid (And.intro HX.out.1.2 (And.intro HX.out.2.1.1 HX.out.2.2.2))
            have hl40 : (out.length + 1) * 40 ≤ 140737488355328 := by have := HX.out.2.2.2; omega
            clear g0 g1 g2 HX
            go_wp2_with (first
              | ((with_reducible refine gate_builtin (b := .append) (xs := #[.tmp 30, .tmp 32]) rfl ?_); at_builtin; refine print_append_cells w.heap.size rfl (.tmp 30) (.tmp 32) 22 30 (.agg #[.int .i64 0, .int .i64 0, .int .i64 0, .int .i64 0, .bool false]) 5 40 rfl Try.underlying22 info30 rfl (by decide) (by decide) u6 out.length (out.flatMap encC) [.int .i64 x1, .int .i64 x2, .int .i64 x3, .int .i64 x4, .bool false] rfl rfl rfl (encC_one (x1, x2, x3, x4, false)) G0.out G1.out G1.out.size hl40 ?_; intro v1 w3 hown3 hb3 hg3 hat3)
              | go_in)
            have hc2 := HX2.out.2.1
            rw [if_neg (show ¬ dl (x1, x2, x3, x4, false) = true from by simp [dl])] at hc2
            have hr2 := G2.out.kept hg3 (row_ne_map G0.out G2.out.owns) (row_ne_iter G0.out G2.out)
            refine ⟨⟨_, cnt1, out ++ [(x1, x2, x3, x4, false)], hr2, ?_, ?_, hc2, hb3⟩, ?_⟩
            · have h1 := HX2.out.2.2; have h2 := HX2.out.1.1; rw [List.length_append, List.length_singleton]; omega
            · rw [List.length_append, List.length_singleton, List.flatMap_append]; exact hown3
            · rw [hr2.left_eq, HX2.out.1.2]; exact HX2.out.1.1
end Go.Proofs.Ytfccepkpbnalmaa.Chg
