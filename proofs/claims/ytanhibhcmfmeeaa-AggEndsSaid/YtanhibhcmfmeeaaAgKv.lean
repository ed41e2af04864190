import Derived.Test.YtanhibhcmfmeeaaAgAp2
/- A vertex over a table of values: what a record meets, what it puts, a key's value; New. -/
namespace Go.Proofs.Ytanhibhcmfmeeaa.Ag
open Go.RowKit Go.Proofs.YtanhibhcmfmeeaaW.PrintWords Go.Proofs.YtanhibhcmfmeeaaW.PrintMore Go.Proofs.Ytanhibhcmfmeeaa.Cut Go.Proofs.Ytanhibhcmfmeeaa.Fr Go.Proofs.Ytanhibhcmfmeeaa.SlK Go.Proofs.Ytanhibhcmfmeeaa.Ex
abbrev ifKv (s : Nat) : Value := .iface 71 (.pointer (some ⟨s, 0, none⟩))
theorem assert_kv (s : Nat) (w : World) : (Instr.typeAssert (ifKv s) 60 71 true).run Try.prog w = .ok (.tuple #[.pointer (some ⟨s, 0, none⟩), .bool true]) w := by kernel_rfl
set_option maxHeartbeats 4000000 in
theorem gathered_kv {w0 w : World} {a s B : Nat} {kind n room : Int} {x : Ex} {l : Kv.L2} {v : Value} (h : AgV w0 w a kind n x (ifKv s)) (hO : Kv.Own w B s room l v) (key val time : Int) (W : World) (hW : Below w.heap.size w W) :
    Calls Try.prog 24 #[.pointer (some ⟨a, 0, none⟩), recV key val time] W fun e w' => e = .returned (.int .i64 ((Kv.look l key).getD 0)) ∧ Below W.heap.size W w' := by
  unfold recV
  have hta := assert_kv s
  have hB := below_alloc (Below.refl W.heap.size W) (.cells #[.int .i64 key, .int .i64 val, .int .i64 time] 36)
  obtain ⟨kA, kc, c0, c2, c3, c4, c5, c6, hx⟩ := ((h.below hW).below hB).cells
  have hg := Kv.get_calls ((hO.below hW).below hB) key
  generalize (Kv.look l key).getD 0 = r at hg ⊢
  generalize (Kv.look l key).isSome = o at hg
  have HB := Lib.hid hB
  clear h hO hW c0 c2 c3 c4 c5 hx hB
  go_enter Try.func24, Try.ntmps24
  go_wp2_with ((with_reducible refine hg.mono ?_); rintro e w1 ⟨rfl, hB1⟩)
  go_ret
  exact ⟨rfl, below_then HB.out HB.out.size hB1⟩
set_option maxHeartbeats 4000000 in
theorem value_kv {w0 w : World} {a s B : Nat} {kind n room : Int} {x : Ex} {l : Kv.L2} {v : Value} (h : AgV w0 w a kind n x (ifKv s)) (hO : Kv.Own w B s room l v) (key : Int) :
    Calls Try.prog 13 #[.pointer (some ⟨a, 0, none⟩), .int .i64 key] w fun e w' => e = .returned (.int .i64 ((Kv.look l key).getD 0)) ∧ Below w.heap.size w w' := by
  have hta := assert_kv s
  obtain ⟨kA, kc, c0, c2, c3, c4, c5, c6, hx⟩ := h.cells
  have hg := Kv.get_calls hO key
  generalize (Kv.look l key).getD 0 = r at hg ⊢
  generalize (Kv.look l key).isSome = o at hg
  clear h hO c0 c2 c3 c4 c5 hx
  go_enter Try.func13, Try.ntmps13
  go_wp2_with ((with_reducible refine hg.mono ?_); rintro e w1 ⟨rfl, hB1⟩)
  go_ret
  exact ⟨rfl, hB1⟩
theorem own_lit5 (W : World) (base : Nat) (x : T5) (hb : base ≤ W.heap.size) : (W.alloc (.cells (encC x).toArray 50)).ownsRow base 50 5 (.slice (some ⟨W.heap.size, 0, none⟩) 1 1) 1 (encC x) := by
  have h := World.ownsRow_lit (base := base) (e := 50) (size := 5) W (encC x).toArray 1 hb (by decide) (by simp [encC])
  simpa using h
theorem row5_one {w : World} {base : Nat} {v : Value} {x : T5} (h : w.ownsRow base 50 5 v 1 (encC x)) : Row5 w base v [x] :=
  ⟨fun _ _ => trivial, encC x, h, rfl, fun j p hp => by
    cases j with
    | zero =>
      obtain rfl : x = p := by simpa using hp
      exact K5_M _ _ _ _
    | succ j => simp at hp⟩
set_option maxHeartbeats 4000000 in
theorem put_kv {w0 w : World} {a s B : Nat} {kind n room : Int} {x : Ex} {l : Kv.L2} {v : Value} (h : AgV w0 w a kind n x (ifKv s)) (hO : Kv.Own w B s room l v) (key val time rn : Int) (hf : Kv.look l key = none → (l.length : Int) < room) (hk : kind = 6) (V : World) (hV : Below w.heap.size w V) :
    Calls Try.prog 25 #[.pointer (some ⟨a, 0, none⟩), recV key val time, .int .i64 rn] V (PutQ V (Kv.F s v) kind (fun V' er chs w1 => er = 0 ∧ chs = [(key, 0, 0, rn, false)] ∧ ∃ v', Kv.Own w1 B s room (Kv.putL key rn l) v' ∧ Mv V' w1 (Kv.F s v) (Kv.F s v'))) := by
  unfold recV
  have hta := assert_kv s
  have hB := below_alloc (Below.refl V.heap.size V) (.cells #[.int .i64 key, .int .i64 val, .int .i64 time] 36)
  have hAV := (h.below hV).below hB
  obtain ⟨kA, kc, c0, c2, c3, c4, c5, c6, hx⟩ := hAV.cells
  have hp := Kv.put_ok ((hO.below hV).below hB) key rn hf
  have HB := Lib.hid hB
  have HO := Lib.hid (And.intro (hO.below hV) hk)
  clear h hV c0 c2 c3 c4 c5 hx hB hAV hO hf
  go_enter Try.func25, Try.ntmps25
  go_wp2_with fail
  refine hp.mono ?_
  rintro e w1 ⟨v', rfl, hO1, hM1⟩
  have HO1 := Lib.hid hO1; have HM1 := Lib.hid hM1
  unfold Kv.chgV
  clear hp hO1 hM1
  go_wp2_with fail
  go_ret2
  have hM2 : Mv V w1 (Kv.F s v) (Kv.F s v') := (Mv.of_below _ HB.out).trans HM1.out
  have hB2 : Below w1.heap.size w1 (w1.alloc (.cells (encC (key, 0, 0, rn, false)).toArray 50)) := below_alloc (Below.refl _ _) _
  have hB3 := below_then hB2 hB2.size (below_alloc (Below.refl _ _) (.cells (encC (key, 0, 0, rn, false)).toArray 50))
  have hrow := own_lit5 (w1.alloc (.cells (encC (key, 0, 0, rn, false)).toArray 50)) V.heap.size (key, 0, 0, rn, false) (by have := hM2.size; simp; omega)
  have hsz : (w1.alloc (.cells (encC (key, 0, 0, rn, false)).toArray 50)).heap.size = w1.heap.size + 1 := by simp
  rw [hsz] at hrow
  have hM3 := hM2.trans (Mv.of_below _ hB3)
  exact ⟨_, 0, [(key, 0, 0, rn, false)], Kv.F s v', rfl, row5_one hrow, fun _ hne => absurd HO.out.2 hne, hM3, rfl, rfl, v', HO1.out.below hB3, hM3⟩
end Go.Proofs.Ytanhibhcmfmeeaa.Ag
