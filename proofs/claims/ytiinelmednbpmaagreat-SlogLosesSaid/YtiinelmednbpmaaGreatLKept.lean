import Derived.Test.YtiinelmednbpmaaGreatLBegins
import Derived.Test.YtiinelmednbpmaaGreatLOpens
import Derived.Test.YtiinelmednbpmaaGreatLLoseP
/- Rows and lists of bools that lie beside a log and are kept whatever it does. -/
namespace Go.Proofs.YtiinelmednbpmaaGreat.Slog
open Go.RowKit Go.Maps Go.Proofs.YtiinelmednbpmaaGreatW.PrintWords Go.Proofs.YtiinelmednbpmaaGreatW.PrintMore Go.Proofs.YtiinelmednbpmaaGreat.Row Go.Proofs.YtiinelmednbpmaaGreat.Cut Go.Proofs.YtiinelmednbpmaaGreat.DiskM Go.Proofs.YtiinelmednbpmaaGreat.Quor Go.Proofs.YtiinelmednbpmaaGreat.Slot
open Go.Proofs.YtiinelmednbpmaaGreat.Crc (KB sameB lists_calls)
def RK (w : World) (x : LB) (b b' : Nat) (v : Value) (row : List (List Int)) : Prop := RowF w 0 (fun k => b ≤ k ∧ k < b') v row ∧ (∀ k, b ≤ k → k < b' → ¬ LF x k) ∧ b' ≤ w.heap.size
theorem RowF.keep {w w' : World} {base : Nat} {ok : Nat → Prop} {v : Value} {row : List (List Int)} (h : RowF w base ok v row) (hk : ∀ k, ok k → k < w.heap.size → w'.heap[k]? = w.heap[k]?) : RowF w' base (fun k => ok k ∧ k < w.heap.size) v row := by
  obtain ⟨zs, h1, h2, h3, h4⟩ := h
  exact ⟨zs, h1.move fun k e => hk k (h2 k e) (h1.lt k e).2.1, fun j e => ⟨h2 j e, (h1.lt j e).2.1⟩, h3, fun z hz => ⟨(h4 z hz).1, Kd.F_mono (Kd.F_step (Kd.F_bound (h4 z hz).2) fun k hk' hlt => hk k hk'.1.1 hlt) fun _ hk' => ⟨⟨hk'.1.1, hk'.2⟩, hk'.1.2⟩⟩⟩
theorem RI.rk {w wx : World} {v : Value} {acc : List (List Int)} (h : RI w w.heap.size wx v acc) {w0 : World} {x : LB} {room : Int} {s : LS} (L : Lg w0 w x room s) : RK wx x w.heap.size wx.heap.size v acc :=
  ⟨((h.rowF (ok := fun k => w.heap.size ≤ k) fun _ hk => hk).keep fun _ _ _ => rfl).mono (Nat.zero_le _) fun _ hk => hk, fun _ hk _ => L.nlt (.inl hk), Nat.le_refl _⟩
theorem RK.kept {w w' : World} {x x' : LB} {b b' : Nat} {v : Value} {row : List (List Int)} (h : RK w x b b' v row) (hk : ∀ k, b ≤ k → k < b' → w'.heap[k]? = w.heap[k]?) (hs : w.heap.size ≤ w'.heap.size) (hn : ∀ k, b ≤ k → k < b' → ¬ LF x' k) : RK w' x' b b' v row :=
  ⟨(h.1.keep fun k hk' _ => hk k hk'.1 hk'.2).mono (Nat.le_refl _) fun _ hk' => hk'.1, hn, Nat.le_trans h.2.2 hs⟩
theorem RK.stp {w w' : World} {x x' : LB} {b b' : Nat} {v : Value} {row : List (List Int)} (h : RK w x b b' v row) (T : Stp w w' (LF x) (LF x')) : RK w' x' b b' v row :=
  h.kept (fun k h1 h2 => T.keep k (Nat.lt_of_lt_of_le h2 h.2.2) (h.2.1 k h1 h2)) T.size fun k h1 h2 e => by
    rcases T.new k e with e | e
    · exact h.2.1 k h1 h2 e
    · have := h.2.2; omega
theorem RK.below {w w' : World} {x : LB} {b b' : Nat} {v : Value} {row : List (List Int)} (h : RK w x b b' v row) (hb : Below w.heap.size w w') : RK w' x b b' v row :=
  h.kept (fun k _ h2 => hb.block k (Nat.lt_of_lt_of_le h2 h.2.2)) hb.size h.2.1
theorem RK.set {w : World} {x : LB} {b b' g i : Nat} {u v : Value} {row : List (List Int)} (h : RK w x b b' v row) (hg : g < b ∨ b' ≤ g) : RK (w.setCell ⟨g, i, none⟩ u) x b b' v row :=
  h.kept (fun k h1 h2 => set_other _ (by omega)) (by simp) h.2.1
/-- A list of bools beside the log. -/
def Bk (w : World) (x : LB) (g : Nat) (bs : List Bool) : Prop := w.heap[g]? = some (.cells (bs.map Value.bool).toArray 4 (0, 0)) ∧ ¬ LF x g
theorem Bk.stp {w w' : World} {x x' : LB} {g : Nat} {bs : List Bool} (h : Bk w x g bs) (T : Stp w w' (LF x) (LF x')) : Bk w' x' g bs := by
  have hlt := (Array.getElem?_eq_some_iff.1 h.1).1
  exact ⟨(T.keep g hlt h.2).trans h.1, fun e => (T.new g e).elim h.2 fun e => by omega⟩
theorem Bk.below {w w' : World} {x : LB} {g : Nat} {bs : List Bool} (h : Bk w x g bs) (hb : Below w.heap.size w w') : Bk w' x g bs :=
  ⟨(hb.block g (Array.getElem?_eq_some_iff.1 h.1).1).trans h.1, h.2⟩
theorem Bk.F {w : World} {x : LB} {g : Nat} {bs : List Bool} (h : Bk w x g bs) (hl : bs.length ≤ 3) : Kd.F Kd.bool w (fun k => ¬ LF x k) (some ⟨g, 0, none⟩) bs.length bs := lit_FB bs h.1 h.2 (by omega)
theorem Bk.other {w : World} {x : LB} {g g' i : Nat} {bs : List Bool} {u : Value} (h : Bk w x g bs) (hn : g ≠ g') : Bk (w.setCell ⟨g', i, none⟩ u) x g bs := ⟨(set_other _ hn).trans h.1, h.2⟩
theorem Bk.set {w : World} {x : LB} {g : Nat} {bs : List Bool} (h : Bk w x g bs) (i : Nat) (v : Bool) : Bk (w.setCell ⟨g, i, none⟩ (.bool v)) x g (bs.set i v) := by
  refine ⟨(blk_set h.1 i (.bool v)).trans ?_, h.2⟩
  rw [List.map_set]
  simp
theorem Lg.bset {w0 w : World} {x : LB} {room : Int} {s : LS} (L : Lg w0 w x room s) {g : Nat} {bs : List Bool} (h : Bk w x g bs) (hlow : w0.heap.size ≤ g) (i : Nat) (v : Value) : Lg w0 (w.setCell ⟨g, i, none⟩ v) x room s :=
  L.but (below_set L.base hlow) (by simp) fun k _ hh => set_other _ fun e => by
    rcases hh with hh | ⟨cs, hh⟩
    · rw [e] at hh; exact h.2 hh
    · rw [e, h.1] at hh; cases hh
theorem Bk.cell {w : World} {x : LB} {g : Nat} {bs : List Bool} (h : Bk w x g bs) (i : Nat) (hi : i < bs.length) : w.cell? ⟨g, i, none⟩ = some (.bool bs[i]) ∧ w.frozen? ⟨g, i, none⟩ = false := by
  refine ⟨?_, blk_frozen h.1 i⟩
  rw [blk_cell h.1 i]
  simp [hi]
end Go.Proofs.YtiinelmednbpmaaGreat.Slog
