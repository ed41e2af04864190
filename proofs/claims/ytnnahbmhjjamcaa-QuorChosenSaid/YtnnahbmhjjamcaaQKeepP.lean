import Derived.Test.YtnnahbmhjjamcaaQOrd
/- QuorKeeps: the plain law; nodes' rows. -/
namespace Go.Proofs.Ytnnahbmhjjamcaa.Quor
open Go.RowKit Go.Maps Go.Proofs.YtnnahbmhjjamcaaW.PrintWords Go.Proofs.YtnnahbmhjjamcaaW.PrintMore Go.Proofs.Ytnnahbmhjjamcaa.Cut
/-- What a node's cell may be. -/
def OkC (c x : C3) : Prop := x.1 ≠ c.1 ∨ x.2.1 < c.2.1 ∨ x = c
theorem keeps_mem {c : C3} {ls : List (List C3)} (hc : ∃ l ∈ ls, c ∈ l) (ho : ∀ l ∈ ls, ∀ x ∈ l, OkC c x) : c ∈ mergeM ls.flatten := by
  have hf : c ∈ ls.flatten := List.mem_flatten.2 hc
  obtain ⟨d, hd⟩ := bestAt_some (l := ls.flatten) (a := c.1) ⟨c, hf, rfl⟩
  have hdm := bestAt_mem hd
  have hge := bestAt_ge hd c hf rfl
  obtain ⟨l, hl, hdl⟩ := List.mem_flatten.1 hdm.1
  have : d = c := by
    rcases ho l hl d hdl with h | h | h
    · exact absurd hdm.2 h
    · omega
    · exact h
  rw [mem_merge, hd, this]
theorem keeps_same {c x : C3} {ls : List (List C3)} (hc : c ∈ mergeM ls.flatten) (hx : x ∈ mergeM ls.flatten) (h : x.1 = c.1) : x = c := sorted_eq (sorted_merge _) hx hc h
abbrev KN : Kd (List C4) := Kd.slice 28 K4
theorem C_K4 {w : World} {A : Option Addr} {n : Nat} {zs : List C4} (hC : K4.C w A n zs) (hr : ∀ z ∈ zs, RdB w z) : KC.C w A n (zs.map C4.c3) := by
  obtain ⟨h1, h2, h3⟩ := hC
  refine ⟨by rw [List.length_map]; exact h1, h2, fun hn => ?_⟩
  obtain ⟨ad, hA, hc⟩ := h3 hn
  refine ⟨ad, hA, fun j p hj => ?_⟩
  rw [List.getElem?_map] at hj
  obtain ⟨z, hz, rfl⟩ := Option.map_eq_some_iff.1 hj
  obtain ⟨cs, k1, k2, k3⟩ := hc j z hz
  obtain rfl : cs = enc4 z := k2
  obtain ⟨r1, r2⟩ := hr z (List.mem_of_getElem? hz)
  exact ⟨enc4 z, rfl, ⟨[.int .i64 z.at_], _, rfl, rfl, ⟨[.int .i64 z.ep], _, rfl, rfl, ⟨z.A, z.c, rfl, r1, r2⟩⟩⟩, k3⟩
theorem C_of_KN {w : World} {base : Nat} {v : Value} {xss : List (List C4)} {ok : Nat → Prop} (h : KN.R 31 w base ok v xss) (hr : ∀ xs ∈ xss, ∀ z ∈ xs, RdB w z) : ∃ A c, v = .slice A xss.length c ∧ xss.length ≤ c ∧ (Kd.slice 28 KC).C w A xss.length (xss.map (List.map C4.c3)) := by
  obtain ⟨A, c, rfl, hle, h1, h2, h3⟩ := Kd.R_reads h
  refine ⟨A, c, rfl, hle, by rw [List.length_map], h2, fun hn => ?_⟩
  obtain ⟨ad, hA, hc⟩ := h3 hn
  refine ⟨ad, hA, fun j p hj => ?_⟩
  rw [List.getElem?_map] at hj
  obtain ⟨xs, hx, rfl⟩ := Option.map_eq_some_iff.1 hj
  obtain ⟨cs, k1, ⟨B, d, k2, k4, k5⟩, k3⟩ := hc j xs hx
  exact ⟨cs, k1, ⟨B, d, by rw [List.length_map]; exact k2, by rw [List.length_map]; exact k4, by rw [List.length_map]; exact C_K4 k5 (hr xs (List.mem_of_getElem? hx))⟩, k3⟩
theorem at_B {w : World} {A : Option Addr} {n : Nat} {l : List Bool} (h : Kd.bool.C w A n l) (i : Nat) (hi : i < n) : ∃ ad b, A = some ad ∧ l[i]? = some b ∧ w.cell? (ad.add i) = some (.bool b) := by
  obtain ⟨hl, _, h⟩ := h
  obtain ⟨ad, hA, hc⟩ := h (by omega)
  have hil : i < l.length := by omega
  obtain ⟨cs, _, hk, hat⟩ := hc i (l[i]) (List.getElem?_eq_getElem hil)
  obtain rfl : cs = [.bool l[i]] := hk
  have h0 := hat 0 _ rfl
  have e1 : Kd.bool.sz = 1 := rfl
  rw [e1, Nat.mul_one, Nat.add_zero] at h0
  exact ⟨ad, l[i], hA, List.getElem?_eq_getElem hil, h0⟩
/-- What a row of nodes' cells holds. -/
def NodeOk (w : World) (c : C3) (z : C4) : Prop := RdB w z ∧ W64 z.at_ ∧ z.by_.length ≤ 140737488355328 ∧ OkC c z.c3
/-- The nodes so far: k of them, the first 'need' have the cell. -/
def Nodes (w : World) (c : C3) (need k : Nat) (xss : List (List C4)) : Prop := xss.length = k ∧ (∀ xs ∈ xss, xs.length ≤ 21 ∧ ∀ z ∈ xs, NodeOk w c z) ∧ ∀ j xs, xss[j]? = some xs → j < need → ∃ z ∈ xs, z.c3 = c
theorem Nodes.snoc {w : World} {c : C3} {need k : Nat} {xss : List (List C4)} {xs : List C4} (h : Nodes w c need k xss) (hl : xs.length ≤ 21) (ho : ∀ z ∈ xs, NodeOk w c z) (hn : k < need → ∃ z ∈ xs, z.c3 = c) : Nodes w c need (k + 1) (xss ++ [xs]) := by
  obtain ⟨h1, h2, h3⟩ := h
  refine ⟨by rw [List.length_append, h1]; rfl, fun ys hy => ?_, fun j ys hj hjn => ?_⟩
  · rcases List.mem_append.1 hy with hy | hy
    · exact h2 ys hy
    · obtain rfl : ys = xs := by simpa using hy
      exact ⟨hl, ho⟩
  · by_cases hjk : j < k
    · rw [List.getElem?_append_left (by omega)] at hj
      exact h3 j ys hj hjn
    · have hjk2 : j = k := by
        have := (List.getElem?_eq_some_iff.1 hj).1
        rw [List.length_append, List.length_singleton] at this
        omega
      subst hjk2
      rw [List.getElem?_append_right (by omega), h1, Nat.sub_self] at hj
      obtain rfl : xs = ys := by simpa using hj
      exact hn hjn
/-- Whom was asked so far: of k nodes, at most L0 were left out. -/
def Asked (w : World) (c : C3) (need k : Nat) (L0 left : Int) (ds : List RD) : Prop := ds.length ≤ k ∧ 0 ≤ left ∧ left ≤ L0 ∧ (∀ d ∈ ds, d.rd w ∧ d.x.length ≤ 21 ∧ ∀ x ∈ d.x, W64 x.1 ∧ x.2.2.length ≤ 140737488355328 ∧ OkC c x) ∧ ((∃ d ∈ ds, c ∈ d.x) ∨ left + (min k need : Nat) ≤ L0)
theorem Asked.skip {w : World} {c : C3} {need k : Nat} {L0 left : Int} {ds : List RD} (h : Asked w c need k L0 left ds) (hl : 0 < left) : Asked w c need (k + 1) L0 (left - 1) ds := by
  obtain ⟨h1, h2, h3, h4, h5⟩ := h
  refine ⟨by omega, by omega, by omega, h4, ?_⟩
  rcases h5 with h5 | h5
  · exact .inl h5
  · exact .inr (by omega)
theorem Asked.add {w : World} {c : C3} {need k : Nat} {L0 left : Int} {ds : List RD} {d : RD} (h : Asked w c need k L0 left ds) (hd : d.rd w ∧ d.x.length ≤ 21 ∧ ∀ x ∈ d.x, W64 x.1 ∧ x.2.2.length ≤ 140737488355328 ∧ OkC c x) (hn : k < need → c ∈ d.x) : Asked w c need (k + 1) L0 left (ds ++ [d]) := by
  obtain ⟨h1, h2, h3, h4, h5⟩ := h
  refine ⟨by rw [List.length_append, List.length_singleton]; omega, h2, h3, fun y hy => ?_, ?_⟩
  · rcases List.mem_append.1 hy with hy | hy
    · exact h4 y hy
    · obtain rfl : y = d := by simpa using hy
      exact hd
  · rcases h5 with ⟨y, hy, hc⟩ | h5
    · exact .inl ⟨y, List.mem_append_left _ hy, hc⟩
    · by_cases hk : k < need
      · exact .inl ⟨d, List.mem_append_right _ (List.mem_singleton.2 rfl), hn hk⟩
      · exact .inr (by omega)
/-- A node's row, as it is read. -/
theorem Nodes.row {w : World} {c : C3} {need k : Nat} {xss : List (List C4)} (h : Nodes w c need k xss) {j : Nat} {l : List C3} (hl : (xss.map (List.map C4.c3))[j]? = some l) : (l.length ≤ 21 ∧ ∀ x ∈ l, W64 x.1 ∧ x.2.2.length ≤ 140737488355328 ∧ OkC c x) ∧ (j < need → c ∈ l) := by
  obtain ⟨_, h2, h3⟩ := h
  rw [List.getElem?_map] at hl
  obtain ⟨xs, hx, rfl⟩ := Option.map_eq_some_iff.1 hl
  obtain ⟨h4, h5⟩ := h2 xs (List.mem_of_getElem? hx)
  refine ⟨⟨by rw [List.length_map]; exact h4, fun x hxm => ?_⟩, fun hj => ?_⟩
  · obtain ⟨z, hz, rfl⟩ := List.mem_map.1 hxm
    have := h5 z hz
    exact ⟨this.2.1, this.2.2.1, this.2.2.2⟩
  · obtain ⟨z, hz, hc⟩ := h3 j xs hx hj
    exact List.mem_map.2 ⟨z, hz, hc⟩
/-- Of all nodes, who was asked has the cell. -/
theorem Asked.has {w : World} {c : C3} {need m : Nat} {left : Int} {ds : List RD} (h : Asked w c need m ((m : Int) - need) left ds) (hn : need = m / 2 + 1) : c ∈ mergeM (ds.map RD.x).flatten := by
  obtain ⟨_, h2, h3, h4, h5⟩ := h
  refine keeps_mem ?_ fun l hl x hx => ?_
  · rcases h5 with ⟨d, hd, hc⟩ | h5
    · exact ⟨d.x, List.mem_map.2 ⟨d, hd, rfl⟩, hc⟩
    · omega
  · obtain ⟨d, hd, rfl⟩ := List.mem_map.1 hl
    exact ((h4 d hd).2.2 x hx).2.2
theorem Asked.flat {w : World} {c : C3} {need m : Nat} {L0 left : Int} {ds : List RD} (h : Asked w c need m L0 left ds) (hm : m ≤ 7) : (ds.map RD.x).flatten.length ≤ 147 := by
  obtain ⟨h1, _, _, h4, _⟩ := h
  have h6 := flat_len (ls := ds.map RD.x) (k := 21) (fun l hl => by obtain ⟨d, hd, rfl⟩ := List.mem_map.1 hl; exact (h4 d hd).2.1)
  rw [List.length_map] at h6
  have : ds.length * 21 ≤ 7 * 21 := Nat.mul_le_mul_right _ (by omega)
  omega
theorem same_calls {x : C4} {w : World} {A : Option Addr} {d : Nat} (hx : RdB w x) (hd : x.by_.length ≤ d) (hC : (Kd.int .u8).C w A x.by_.length x.by_) :
    Calls Try.prog 10 #[encV x, .agg #[.int .i64 x.at_, .int .i64 x.ep, .slice A x.by_.length d]] w fun e w' => e = .returned (.bool true) ∧ Below w.heap.size w w' :=
  (PQuorOrder.tidemillref09_Same.calls x.at_ x.ep x.A x.c x.by_ x.at_ x.ep A d x.by_ true w hx.2 hx.1 hC hd (same_self x.c3)).mono fun _ _ h => h
end Go.Proofs.Ytnnahbmhjjamcaa.Quor
