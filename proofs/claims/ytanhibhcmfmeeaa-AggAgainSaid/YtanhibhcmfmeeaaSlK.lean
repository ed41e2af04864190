import Derived.Test.YtanhibhcmfmeeaaFr
import Derived.Laws.CopyRow
import Derived.Lib.SliceRun
import Derived.Lib.Overlaps
import Derived.Lib.AppendZerosOnto
import Derived.Lib.AppendZeros
/- Rows of elements of several cells: copy; what is inserted, what is cut out, plain. -/
namespace Go.Proofs.Ytanhibhcmfmeeaa.SlK
open Go.RowKit Go.Proofs.YtanhibhcmfmeeaaW.PrintWords Go.Proofs.Ytanhibhcmfmeeaa.Fr
theorem run_copyK {P : Program} (w : World) (dT sT ty elem : TypeId) (g o dLen dCap : Nat) (a : Addr) (sLen sCap : Nat) (cur : Array Value) (t : TypeId) (cs : List Value) (K n : Nat)
    (hu : P.underlying dT = some (.slice elem)) (hs : (P.info? elem).map (·.size) = some K)
    (hg : w.heap[g]? = some (.cells cur t (0, 0))) (hn : n = Nat.min sLen dLen) (hcl : cs.length = n * K)
    (hsrc : ∀ j v, cs[j]? = some v → w.cell? (a.add j) = some v) (hfit : o + cs.length ≤ cur.size) (h1 : ∀ v ∈ cs, v.oneCell' = true) :
    (Builtin.copy_ #[dT, sT] ty #[.slice (some ⟨g, o, none⟩) dLen dCap, .slice (some a) sLen sCap]).run P w =
      .ok (goInt n) (w.setRow g (cur.toList.take o ++ cs ++ cur.toList.drop (o + cs.length)).toArray) := by
  have hl := run_loadCells_list (P := P) w a cs hsrc
  have hst := run_storeCells_at P g o t cs 0 cur w hg (by simpa using hfit) h1
  cases hq : P.info? elem with
  | none => simp [hq] at hs
  | some i =>
    have hi : i.size = K := by simpa [hq] using hs
    rw [hcl] at hl
    simp [Builtin.copy_, run_underlying hu, Builtin.lenOf, Builtin.firstCells, sizeOf, typeInfo, hq, hi, ← hn, hl, hst]
theorem wpList_copy_run {P : Program} (w : World) {ops : Array Oper} {rest : List Oper} {o : Oper} {a : Act} {Q : Exit → Act → World → Prop} (hgd : o.guard = none) (d s : Operand) (t t' : TypeId)
    (ho : o.op = .call { callee := .builtin .copy, args := #[d, s], argTypes := #[t, t'] }) (v u : Value) (hd : a.eval d = v) (hs : a.eval s = u) {v' : Value} {w' : World}
    (hr : (Builtin.copy_ #[t, t'] o.type #[v, u]).run P w = .ok v' w') (h : wpList P ops Q rest (a.put o.dst v') w') : wpList P ops Q (o :: rest) a w := by
  refine wpList_plain hgd fun K hK => ?_
  unfold Oper.wp execOp
  simp only [ho, resolve, invoke, builtin, Sem.run_bind, Sem.run_pure, Result.andThen_ok, List.map_toArray, List.map_cons, List.map_nil, hd, hs, hr]
  exact hK _ _ h
theorem step_copy_run {P : Program} {ops : Array Oper} {o : Oper} {a : Act} {w : World} {K : Act → World → Prop} {Q : Exit → Act → World → Prop} {E : Prop}
    (hg : o.guard = none) (d x : Operand) (dT sT : TypeId) (hop : o.op = Op.call { callee := Callee.builtin Builtin.copy, args := #[d, x], argTypes := #[dT, sT] })
    (v u : Value) (hd : a.eval d = v) (hx : a.eval x = u) {v' : Value} {w' : World} (hr : (Builtin.copy_ #[dT, sT] o.type #[v, u]).run P w = .ok v' w') (hK : K (a.put o.dst v') w') :
    if Region.wanted o (yielded ops a.tmps) = true then Oper.wp P o a w K Q else E := by
  have hw : Region.wanted o (yielded ops a.tmps) = true := by simp [Region.wanted, hg]
  rw [if_pos hw]
  unfold Oper.wp
  simp [execOp, hop, resolve, invoke, builtin, hd, hx, hr, Result.andThen]
  exact hK
/-! plain -/
theorem room_list {α : Type} (L ec X : List α) (a k : Nat) (hL : a + k + X.length ≤ L.length) (hec : ec.length = k) :
    ((L.take (a + k) ++ X ++ L.drop (a + k + X.length)).take a ++ ec ++ (L.take (a + k) ++ X ++ L.drop (a + k + X.length)).drop (a + ec.length)).take (a + k + X.length) = L.take a ++ ec ++ X := by
  have e1 : (L.take (a + k) ++ X ++ L.drop (a + k + X.length)).take a = L.take a := by
    rw [List.append_assoc, List.take_append_of_le_length (by rw [List.length_take]; omega), List.take_take, Nat.min_eq_left (by omega)]
  have e2 : (L.take (a + k) ++ X ++ L.drop (a + k + X.length)).drop (a + ec.length) = X ++ L.drop (a + k + X.length) := by
    rw [hec, List.append_assoc]
    exact List.drop_left' (by rw [List.length_take]; omega)
  rw [e1, e2, ← List.append_assoc]
  exact List.take_left' (by simp only [List.length_append, List.length_take]; omega)
theorem grow_list {α : Type} (L ec X : List α) (a k : Nat) (hL : a + k + X.length ≤ L.length) (hec : ec.length = k) :
    ((L.take a ++ ec ++ L.drop (a + ec.length)).take (a + k) ++ X ++ (L.take a ++ ec ++ L.drop (a + ec.length)).drop (a + k + X.length)).take (a + k + X.length) = L.take a ++ ec ++ X := by
  have e1 : (L.take a ++ ec ++ L.drop (a + ec.length)).take (a + k) = L.take a ++ ec := List.take_left' (by simp only [List.length_append, List.length_take]; omega)
  rw [e1]
  exact List.take_left' (by simp only [List.length_append, List.length_take]; omega)
theorem cut_list {α : Type} (L cs : List α) (n a b : Nat) (hcs : L.take n = cs) (hcl : cs.length = n) (ha : a ≤ b) (hb : b ≤ n) (_hL : n ≤ L.length) :
    (L.take a ++ cs.drop b ++ L.drop (a + (cs.drop b).length)).take (a + (n - b)) = cs.take a ++ cs.drop b := by
  have e1 : L.take a = cs.take a := by rw [← hcs, List.take_take, Nat.min_eq_left (by omega)]
  rw [e1]
  exact List.take_left' (by simp only [List.length_append, List.length_take, List.length_drop]; omega)
end Go.Proofs.Ytanhibhcmfmeeaa.SlK
