import Derived.Test.YtanhibhcmfmeeaaWWords
import Derived.Lib.Hide
/- Frames: what a step leaves alone, told by the blocks that an object holds. -/
namespace Go.Proofs.Ytanhibhcmfmeeaa.Fr
open Go.RowKit Go.Proofs.YtanhibhcmfmeeaaW.PrintWords
theorem bcell {W w1 : World} (hb : Below W.heap.size W w1) : (∀ b o, b < W.heap.size → w1.cell? ⟨b, o, none⟩ = W.cell? ⟨b, o, none⟩) ∧ (∀ b o, b < W.heap.size → w1.frozen? ⟨b, o, none⟩ = W.frozen? ⟨b, o, none⟩) :=
  ⟨fun b o h => hb.cell (p := ⟨b, o, none⟩) h, fun b o h => hb.frozen (p := ⟨b, o, none⟩) h⟩
/-- A step: blocks outside F are kept; what is in F' behind it was in F, or is new. -/
structure Mv (w w' : World) (F F' : Nat → Prop) : Prop where
  os : w'.os = w.os
  tape : w'.tape = w.tape
  output : w'.output = w.output
  size : w.heap.size ≤ w'.heap.size
  keep : ∀ k, k < w.heap.size → ¬ F k → w'.heap[k]? = w.heap[k]?
  new : ∀ k, F' k → F k ∨ w.heap.size ≤ k
theorem Mv.refl (w : World) (F : Nat → Prop) : Mv w w F F := ⟨rfl, rfl, rfl, Nat.le_refl _, fun _ _ _ => rfl, fun _ h => .inl h⟩
theorem Mv.trans {w1 w2 w3 : World} {F1 F2 F3 : Nat → Prop} (h : Mv w1 w2 F1 F2) (g : Mv w2 w3 F2 F3) : Mv w1 w3 F1 F3 := by
  refine ⟨g.os.trans h.os, g.tape.trans h.tape, g.output.trans h.output, Nat.le_trans h.size g.size, fun k hk hs => ?_, fun k hk => ?_⟩
  · have hs2 : ¬ F2 k := fun e => (h.new k e).elim hs (fun e' => by omega)
    exact (g.keep k (Nat.lt_of_lt_of_le hk h.size) hs2).trans (h.keep k hk hs)
  · rcases g.new k hk with e | e
    · exact h.new k e
    · exact .inr (Nat.le_trans h.size e)
theorem Mv.of_below {w w' : World} (F : Nat → Prop) (hb : Below w.heap.size w w') : Mv w w' F F := ⟨hb.os, hb.tape, hb.output, hb.size, fun k hk _ => hb.block k hk, fun _ h => .inl h⟩
theorem Mv.of_grown {w w' : World} {row : Option Nat} (hg : w.grownBy w' row) {F F' : Nat → Prop} (h1 : ∀ k, row = some k → F k) (h2 : ∀ k, F' k → F k ∨ w.heap.size ≤ k) : Mv w w' F F' :=
  ⟨hg.os, hg.tape, hg.output, hg.size, fun k hk hs => hg.block k hk (fun e => hs (h1 k e.symm)), h2⟩
/-- A larger room for the step. -/
theorem Mv.mono {w w' : World} {F F' G G' : Nat → Prop} (h : Mv w w' F F') (h1 : ∀ k, F k → G k) (h2 : ∀ k, G' k → G k ∨ F' k) : Mv w w' G G' :=
  ⟨h.os, h.tape, h.output, h.size, fun k hk hs => h.keep k hk fun e => hs (h1 k e), fun k hk => (h2 k hk).elim .inl fun e => (h.new k e).imp (h1 k) id⟩
/-- Beside another object. -/
theorem Mv.side {w w' : World} {F F' : Nat → Prop} (h : Mv w w' F F') (G : Nat → Prop) : Mv w w' (fun k => F k ∨ G k) (fun k => F' k ∨ G k) :=
  h.mono (fun _ e => .inl e) fun _ e => e.elim .inr fun e => .inl (.inr e)
theorem Mv.below {w w' : World} {F F' : Nat → Prop} (h : Mv w w' F F') {B : Nat} {w0 : World} (hB : Below B w0 w) (hs : B ≤ w.heap.size) (hF : ∀ k, F k → B ≤ k) : Below B w0 w' :=
  hB.trans ⟨h.os, h.tape, h.output, h.size, fun k hk => h.keep k (by omega) fun e => by have := hF k e; omega⟩
theorem Mv.cell {w w' : World} {F F' : Nat → Prop} (h : Mv w w' F F') {a : Addr} {v : Value} (c : w.cell? a = some v) (hn : ¬ F a.block) : w'.cell? a = some v :=
  (World.cell?_of_block (h.keep _ (World.block_lt_of_cell? w a c) hn)).trans c
end Go.Proofs.Ytanhibhcmfmeeaa.Fr
