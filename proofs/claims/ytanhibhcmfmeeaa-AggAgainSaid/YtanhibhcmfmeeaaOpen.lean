import Derived.Test.YtanhibhcmfmeeaaWWords
import Derived.ChangeArms
import Derived.Deep.Slices
import Derived.SizedLaws
import Derived.Carry
import Derived.WideShapes
import Derived.ChangeSame
/- What an argument's cells are, whatever its type: a kind of the printed words, read out of the row's data. -/
namespace Go.Proofs.Ytanhibhcmfmeeaa.Open
open Go.RowKit Go.ChangeShapes Go.WideShapes Go.Deep Go.Proofs.YtanhibhcmfmeeaaW.PrintWords

/-- Whatever reads as data of type t has the cells of the kind d; what is read satisfies B, if it is no heavier than the reach. -/
def Opens {α : Type} (P : Program) (t : TypeId) (d : Kd α) (B : α → Prop) : Prop :=
  ∀ (H : Type) (enc : TypeId × Value → H) (w : World) (base : Nat) (spare : Nat → Bool) (held : Bool) (fuel : Nat) (cs : List Value) (x : DataW H × List MemPlace),
    DataW.trod enc P w base spare held fuel t cs = some x → ∃ a, d.K w a cs ∧ ((∀ n ∈ x.1.weights P t, n ≤ reachBytes) → B a)

theorem opens_int {P : Program} {t : TypeId} {k : IntKind} (ht : P.underlying t = some (.int k)) : Opens P t (Kd.int k) (fun n => (Lit.int k n).wf = true) := by
  intro H enc w base spare held fuel cs x h
  obtain ⟨n, rfl, _, hw⟩ := DataW.trod_int ht h
  exact ⟨n, rfl, fun _ => hw⟩
theorem opens_bool {P : Program} {t : TypeId} (ht : P.underlying t = some .bool) : Opens P t Kd.bool (fun _ => True) := by
  intro H enc w base spare held fuel cs x h
  obtain ⟨b, rfl, _⟩ := DataW.trod_bool ht h
  exact ⟨b, rfl, fun _ => trivial⟩
theorem opens_string {P : Program} {t : TypeId} (ht : P.underlying t = some .string) : Opens P t Kd.string (fun s => s.size ≤ 140737488351232) := by
  intro H enc w base spare held fuel cs x h
  obtain ⟨s, rfl, rfl, _⟩ := DataW.trod_string ht h
  refine ⟨s, rfl, fun hw => ?_⟩
  have := hw s.data.toList.length (by simp [DataW.weights])
  rw [Array.length_toList] at this
  exact this

theorem mem_weightsAll {H : Type} {P : Program} {e : TypeId} {n : Nat} {d : DataW H} : ∀ {l : List (DataW H)}, d ∈ l → n ∈ d.weights P e → n ∈ DataW.weightsAll P e l
  | a :: r, hd, hn => by
    rw [DataW.weightsAll, List.mem_append]
    rcases List.mem_cons.1 hd with rfl | hd
    · exact .inl hn
    · exact .inr (mem_weightsAll hd hn)

theorem reps_of {α : Type} {R : α → List Value → Prop} {size : Nat} (n : Nat) (f : Nat → Option (List Value)) (B : α → Prop)
    (h : ∀ i, i < n → ∃ cs a, f i = some cs ∧ cs.length = size ∧ R a cs ∧ B a) :
    ∃ (xs : List α) (g : Nat → List Value), xs.length = n ∧ (∀ i, i < n → f i = some (g i) ∧ (g i).length = size) ∧ (∀ i (hi : i < xs.length), R (xs[i]) (g i)) ∧ ∀ a ∈ xs, B a := by
  induction n with
  | zero => exact ⟨[], fun _ => [], rfl, fun i hi => absurd hi (by omega), fun i hi => absurd hi (by simp), fun a ha => by simp at ha⟩
  | succ n ih =>
    obtain ⟨xs, g, hl, hf, hR, hB⟩ := ih (fun i hi => h i (by omega))
    obtain ⟨cs, a, h1, h2, h3, h4⟩ := h n (by omega)
    refine ⟨xs ++ [a], fun i => if i = n then cs else g i, by simp [hl], ?_, ?_, ?_⟩
    · intro i hi
      by_cases hin : i = n
      · subst hin; simpa using ⟨h1, h2⟩
      · simpa [hin] using hf i (by omega)
    · intro i hi
      by_cases hin : i = n
      · subst hin; simpa [List.getElem_append_right, hl] using h3
      · have hi' : i < xs.length := by simp [hl] at hi ⊢; omega
        simpa [hin, List.getElem_append_left hi'] using hR i hi'
    · intro b hb
      rcases List.mem_append.1 hb with hb | hb
      · exact hB b hb
      · rw [List.mem_singleton.1 hb]; exact h4

theorem opens_slice {α : Type} {P : Program} {t e : TypeId} {d : Kd α} {B : α → Prop} {bytes : Nat} (ht : P.underlying t = some (.slice e)) (hc : P.cellsOf e = d.sz) (hb : P.bytesOf e = bytes) (he : Opens P e d B) :
    Opens P t (Kd.slice e d) (fun xs => xs.length * bytes ≤ 140737488351232 ∧ ∀ a ∈ xs, B a) := by
  intro H enc w base spare held fuel cs x h
  rcases open_slice ht h with ⟨rfl, rfl⟩ | ⟨a, len, cap, m, n, D, Pl, rfl, hbs, hl, hm, hmm, rfl, hi⟩
  · exact ⟨[], ⟨none, 0, rfl, Nat.le_refl _, rfl, by simp, fun h0 => absurd h0 (by simp)⟩, fun _ => ⟨by simp, fun a ha => by simp at ha⟩⟩
  · have hlm : len ≤ m := by rw [hmm]; split <;> omega
    obtain ⟨xs, g, hxl, hg, hR, hB⟩ := reps_of (R := d.K w) (size := d.sz) len (fun i => w.cells? base (a.add (i * P.cellsOf e)) (P.cellsOf e)) (fun y => ∃ dd ∈ (List.range len).map D, (∀ q ∈ dd.weights P e, q ≤ reachBytes) → B y) (by
      intro i hil
      obtain ⟨cs', hcs, htr⟩ := hi i (by omega)
      obtain ⟨y, hK, hw⟩ := he H enc w base spare held n cs' _ htr
      exact ⟨cs', y, hcs, d.K_len hK, hK, D i, List.mem_map.2 ⟨i, List.mem_range.2 hil, rfl⟩, hw⟩)
    have hlen : xs.length * bytes ≤ 140737488351232 ∨ True := .inr trivial
    refine ⟨xs, ⟨some a, cap, by rw [hxl], by omega, rfl, ?_, fun h0 => ⟨a, rfl, fun j p hj => ?_⟩⟩, fun hwt => ⟨?_, fun y hy => ?_⟩⟩
    · simp only [maxLen] at hm; omega
    · have hjl : j < xs.length := (List.getElem?_eq_some_iff.1 hj).1
      obtain ⟨h1, h2⟩ := hg j (by omega)
      have hr := hR j hjl
      rw [(List.getElem?_eq_some_iff.1 hj).2] at hr
      obtain ⟨_, hcl, hat⟩ := World.cells?_some h1
      refine ⟨g j, h2, hr, fun i u hu => ?_⟩
      have hil : i < P.cellsOf e := by have := (List.getElem?_eq_some_iff.1 hu).1; omega
      have := hat i hil
      rw [hu, Go.Deep.add_add, hc] at this
      exact this
    · have := hwt ((len + ((List.range (m - len)).map fun j => D (len + j)).length) * P.bytesOf e) (by simp [DataW.weights, ht])
      rw [hb] at this
      rw [hxl]
      exact Nat.le_trans (Nat.mul_le_mul_right _ (by omega)) this
    · obtain ⟨dd, hdd, hBy⟩ := hB y hy
      refine hBy fun q hq => hwt q ?_
      rw [DataW.weights, ht]
      exact List.mem_cons_of_mem _ (List.mem_append_left _ (mem_weightsAll hdd hq))

/-! structs: the fields one behind the other -/
def OpensFrom {α : Type} (P : Program) (fs : List Field) (off : Nat) (d : Kd α) (B : α → Prop) : Prop :=
  ∀ (H : Type) (enc : TypeId × Value → H) (w : World) (base : Nat) (spare : Nat → Bool) (held : Bool) (fuel : Nat) (cs : List Value) (xs : List (DataW H × List MemPlace)),
    cs.length = off + d.sz → xs.length = fs.length → (∀ (i : Nat) (f : Field), fs[i]? = some f → DataW.trod enc P w base spare held fuel f.type ((cs.drop f.offset).take (P.cellsOf f.type)) = xs[i]?) →
    ∃ a, d.K w a (cs.drop off) ∧ ((∀ n ∈ DataW.weightsEach P (fs.map (·.type)) (xs.map (·.1)), n ≤ reachBytes) → B a)
theorem opens_last {α : Type} {P : Program} {f : Field} {off : Nat} {d : Kd α} {B : α → Prop} (ho : f.offset = off) (hc : P.cellsOf f.type = d.sz) (hf : Opens P f.type d B) : OpensFrom P [f] off d B := by
  intro H enc w base spare held fuel cs xs hl hxl h
  obtain ⟨y, rfl⟩ : ∃ y, xs = [y] := by
    match xs, hxl with
    | [y], _ => exact ⟨y, rfl⟩
  have h0 := h 0 f rfl
  rw [ho, hc, List.take_of_length_le (by simp [hl])] at h0
  obtain ⟨a, hK, hB⟩ := hf H enc w base spare held fuel _ y h0
  exact ⟨a, hK, fun hw => hB fun n hn => hw n (by simp [DataW.weightsEach, hn])⟩
theorem opens_cons {α β : Type} {P : Program} {f : Field} {fs : List Field} {off : Nat} {d : Kd α} {d' : Kd β} {B : α → Prop} {B' : β → Prop} (ho : f.offset = off) (hc : P.cellsOf f.type = d.sz) (hf : Opens P f.type d B) (hr : OpensFrom P fs (off + d.sz) d' B') :
    OpensFrom P (f :: fs) off (Kd.pair d d') (fun x => B x.1 ∧ B' x.2) := by
  intro H enc w base spare held fuel cs xs hl hxl h
  obtain ⟨y, ys, rfl⟩ : ∃ y ys, xs = y :: ys := by
    match xs, hxl with
    | y :: ys, _ => exact ⟨y, ys, rfl⟩
  have hpl : cs.length = off + (d.sz + d'.sz) := hl
  have h0 := h 0 f rfl
  rw [ho, hc] at h0
  obtain ⟨a, hK, hB⟩ := hf H enc w base spare held fuel _ y h0
  obtain ⟨b, hK', hB'⟩ := hr H enc w base spare held fuel cs ys (by omega) (by simpa using hxl) (fun i g hi => h (i + 1) g hi)
  refine ⟨(a, b), ⟨_, _, ?_, hK, hK'⟩, fun hw => ⟨hB fun n hn => hw n (by simp [DataW.weightsEach, hn]), hB' fun n hn => hw n (by simp only [List.map_cons, DataW.weightsEach, List.mem_append]; exact .inr hn)⟩⟩
  rw [← List.drop_drop, List.take_append_drop]
theorem opens_struct {α : Type} {P : Program} {t : TypeId} {fs : Array Field} {d : Kd α} {B : α → Prop} (ht : P.underlying t = some (.struct fs)) (hc : P.cellsOf t = d.sz) (hf : OpensFrom P fs.toList 0 d B) : Opens P t d B := by
  intro H enc w base spare held fuel cs x h
  obtain ⟨xs, n, rfl, rfl, hl, hxl, hg⟩ := DataW.trod_struct ht h
  obtain ⟨a, hK, hB⟩ := hf H enc w base spare held n cs xs (by omega) (by simpa using hxl) (fun i f hi => hg i f (by simpa using hi))
  rw [List.drop_zero] at hK
  refine ⟨a, hK, fun hw => hB fun q hq => hw q ?_⟩
  rw [DataW.weights, ht]
  exact hq
theorem opens_iso {α β : Type} {P : Program} {t : TypeId} {d : Kd α} {B : α → Prop} (f : β → α) (g : α → β) (hfg : ∀ a, f (g a) = a) (h : Opens P t d B) : Opens P t (Kd.iso d f) (fun b => B (f b)) := by
  intro H enc w base spare held fuel cs x hx
  obtain ⟨a, hK, hB⟩ := h H enc w base spare held fuel cs x hx
  refine ⟨g a, ?_, ?_⟩
  · show d.K w (f (g a)) cs
    rw [hfg]; exact hK
  · show _ → B (f (g a))
    rw [hfg]; exact hB
theorem opens_mono {α : Type} {P : Program} {t : TypeId} {d : Kd α} {B B' : α → Prop} (h : Opens P t d B) (hb : ∀ a, B a → B' a) : Opens P t d B' := by
  intro H enc w base spare held fuel cs x hx
  obtain ⟨a, hK, hB⟩ := h H enc w base spare held fuel cs x hx
  exact ⟨a, hK, fun hw => hb a (hB hw)⟩

/-- At a row's place j: what the argument reads as, and that it is no heavier than the row's reach. -/
theorem Opens.at_ {α : Type} {P : Program} {t : TypeId} {d : Kd α} {B : α → Prop} (h : Opens P t d B) {H : Type} {enc : TypeId × Value → H} {w : World} {base : Nat} {spare : Nat → Bool} {held : Bool} {v : Value} {dd : DataW H} {p : List MemPlace}
    {ts : List TypeId} {ds : List (DataW H)} {j : Nat} (hsz : (DataW.weightsEach P ts ds).all (· ≤ reachBytes) = true) (ht : ts[j]? = some t) (hd : ds[j]? = some dd)
    (hr : DataW.Trod enc P w base spare held t v dd p) : ∃ a, d.K w a v.cells.toList ∧ B a := by
  obtain ⟨fuel, hf⟩ := hr
  obtain ⟨a, hK, hB⟩ := h H enc w base spare held fuel _ _ hf
  exact ⟨a, hK, hB fun n hn => by simpa using List.all_eq_true.1 hsz n (DataW.weights_mem_each ht hd n hn)⟩

theorem wf_bounds {k : IntKind} {n : Int} (h : (Lit.int k n).wf = true) : k.min ≤ n ∧ n ≤ k.max := by simpa [Lit.wf] using h
theorem wf_u8 {n : Int} (h : (Lit.int .u8 n).wf = true) : 0 ≤ n ∧ n ≤ 255 := wf_bounds h
theorem wf_u16 {n : Int} (h : (Lit.int .u16 n).wf = true) : 0 ≤ n ∧ n ≤ 65535 := wf_bounds h
theorem wf_u32 {n : Int} (h : (Lit.int .u32 n).wf = true) : 0 ≤ n ∧ n ≤ 4294967295 := wf_bounds h
theorem wf_i16 {n : Int} (h : (Lit.int .i16 n).wf = true) : -32768 ≤ n ∧ n ≤ 32767 := wf_bounds h
theorem wf_i64 {n : Int} (h : (Lit.int .i64 n).wf = true) : -9223372036854775808 ≤ n ∧ n ≤ 9223372036854775807 := wf_bounds h
theorem wf_i32 {n : Int} (h : (Lit.int .i32 n).wf = true) : -2147483648 ≤ n ∧ n ≤ 2147483647 := wf_bounds h
theorem wf_u64 {n : Int} (h : (Lit.int .u64 n).wf = true) : 0 ≤ n ∧ n ≤ 18446744073709551615 := wf_bounds h
end Go.Proofs.Ytanhibhcmfmeeaa.Open
