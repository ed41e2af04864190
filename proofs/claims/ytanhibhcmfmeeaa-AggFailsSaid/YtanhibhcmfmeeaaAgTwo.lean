import Derived.Test.YtanhibhcmfmeeaaAgO4
/- Two vertices' stores side by side. -/
namespace Go.Proofs.Ytanhibhcmfmeeaa.Ag
open Go.RowKit Go.Proofs.YtanhibhcmfmeeaaW.PrintWords Go.Proofs.YtanhibhcmfmeeaaW.PrintMore Go.Proofs.Ytanhibhcmfmeeaa.Cut Go.Proofs.Ytanhibhcmfmeeaa.Fr Go.Proofs.Ytanhibhcmfmeeaa.SlK Go.Proofs.Ytanhibhcmfmeeaa.Ex
open Go.Proofs.Ytanhibhcmfmeeaa.Win (St P2 startF)
open Go.Proofs.Ytanhibhcmfmeeaa.Se (L4 S4)
structure Two (w0 w : World) (a1 a2 : Nat) (n : Int) (x : Ex) (t1 t2 : Tb) (F1 F2 : Nat → Prop) : Prop where
  o1 : AgO w0 w a1 n x t1 F1
  o2 : AgO w0 w a2 n x t2 F2
  dj : ∀ k, F1 k → ¬ F2 k
  n1 : ¬ F1 a2
  n2 : ¬ F2 a1
  ne : a1 ≠ a2
theorem Two.below {w0 w w' : World} {a1 a2 : Nat} {n : Int} {x : Ex} {t1 t2 : Tb} {F1 F2 : Nat → Prop} (h : Two w0 w a1 a2 n x t1 t2 F1 F2) (hb : Below w.heap.size w w') : Two w0 w' a1 a2 n x t1 t2 F1 F2 := ⟨h.o1.below hb, h.o2.below hb, h.dj, h.n1, h.n2, h.ne⟩
theorem Two.one {w0 w w' : World} {a1 a2 : Nat} {n : Int} {x : Ex} {t1 t1' t2 : Tb} {F1 F1' F2 : Nat → Prop} (h : Two w0 w a1 a2 n x t1 t2 F1 F2) (ho : AgO w0 w' a1 n x t1' F1') (hm : Mv w w' F1 F1') : Two w0 w' a1 a2 n x t1' t2 F1' F2 :=
  ⟨ho, h.o2.mv hm (fun k hk => (h.o1.lt k hk).1) (fun k hk e => h.dj k e hk) h.n1, fun k hk e => (hm.new k hk).elim (fun h' => h.dj k h' e) (fun h' => by have := (h.o2.lt k e).2; omega), fun e => (hm.new a2 e).elim h.n1 (fun h' => by have := h.o2.alt.2; omega), h.n2, h.ne⟩
theorem Two.two {w0 w w' : World} {a1 a2 : Nat} {n : Int} {x : Ex} {t1 t2 t2' : Tb} {F1 F2 F2' : Nat → Prop} (h : Two w0 w a1 a2 n x t1 t2 F1 F2) (ho : AgO w0 w' a2 n x t2' F2') (hm : Mv w w' F2 F2') : Two w0 w' a1 a2 n x t1 t2' F1 F2' :=
  ⟨h.o1.mv hm (fun k hk => (h.o2.lt k hk).1) (fun k hk e => h.dj k hk e) h.n2, ho, fun k hk e => (hm.new k e).elim (fun h' => h.dj k hk h') (fun h' => by have := (h.o1.lt k hk).2; omega), h.n1, fun e => (hm.new a1 e).elim h.n2 (fun h' => by have := h.o1.alt.2; omega), h.ne⟩
theorem Two.start {w0 w1 w3 : World} {a1 a2 : Nat} {n : Int} {x : Ex} {t1 t2 : Tb} {F1 F2 : Nat → Prop} (h1 : AgO w0 w1 a1 n x t1 F1) (hb : Below w1.heap.size w1 w3) (h2 : AgO w0 w3 a2 n x t2 F2) (hF : ∀ k, F2 k → w1.heap.size ≤ k) (ha : w1.heap.size ≤ a2) : Two w0 w3 a1 a2 n x t1 t2 F1 F2 :=
  ⟨h1.below hb, h2, fun k hk e => by have := (h1.lt k hk).2; have := hF k e; omega, fun e => by have := (h1.lt _ e).2; omega, fun e => by have := hF _ e; have := h1.alt.2; omega, fun e => by have := h1.alt.2; omega⟩
theorem three_rows (w : World) (a b c : Obj) : ∃ W, W = ((w.alloc a).alloc b).alloc c ∧ Below w.heap.size w W ∧ W.heap.size = w.heap.size + 3 ∧ W.heap[w.heap.size]? = some a ∧ W.heap[w.heap.size + 1]? = some b ∧ W.heap[w.heap.size + 1 + 1]? = some c := by
  refine ⟨_, rfl, below_alloc (below_alloc (below_alloc (Below.refl _ _) _) _) _, by simp, ?_, ?_, ?_⟩
  · rw [(Go.MapKept.heap_alloc _ _).2 _ (by simp; omega), (Go.MapKept.heap_alloc _ _).2 _ (by simp), (Go.MapKept.heap_alloc w _).1]
  · rw [(Go.MapKept.heap_alloc _ _).2 _ (by simp)]
    simpa using (Go.MapKept.heap_alloc (w.alloc a) b).1
  · simpa using (Go.MapKept.heap_alloc ((w.alloc a).alloc b) c).1
/-- A row of changes that was made is kept by a step on elder blocks. -/
theorem row5_mv {w w' : World} {base : Nat} {v : Value} {l : List T5} (h : Row5 w base v l) {G G' : Nat → Prop} (hm : Mv w w' G G') (hG : ∀ k, G k → k < base) : Row5 w' base v l :=
  Kd.R_mono (Kd.R_move (Kd.R_bound h) fun k hk => hm.keep k hk.2.2.1 (fun e => by have := hG k e; have := hk.2.1; omega)) fun _ _ => trivial
end Go.Proofs.Ytanhibhcmfmeeaa.Ag
