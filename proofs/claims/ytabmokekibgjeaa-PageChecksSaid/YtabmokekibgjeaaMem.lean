/-
  Words for memory: a slice value that reads as a list of cells; a row of the call's own; lists of elements as cells; arguments that are slices, opened.
-/
import Derived.WalkKit
import Derived.WalkSpells
import Derived.WalkLawsBesides
import Derived.Deep.Draws
import Derived.Laws.OwnMore
import Derived.Laws.AppendOwnNone
import Derived.OwnWalk
import Derived.ProofKit
import Derived.SliceStrings
import Derived.Deep.Slices
import Derived.Deep.Fields
import Derived.Lib.Strings
import Derived.Lib.Hide
namespace Go.Proofs.Ytabmokekibgjeaa
open Go.RowKit Go.ChangeShapes Go.WideShapes

/-- The slice of n elements of sz cells at A reads as the cells xs. -/
def Rd (w : World) (sz : Nat) (A : Option Addr) (n : Nat) (xs : List Value) : Prop :=
  xs.length = n * sz ∧ (0 < n → ∃ b off, A = some ⟨b, off, none⟩ ∧ b < w.heap.size ∧ ∀ j, j < n * sz → w.cell? ⟨b, off + j, none⟩ = xs[j]?)

section
variable {w w' : World} {base sz n : Nat} {e : TypeId} {A : Option Addr} {v : Value} {xs : List Value}
theorem Rd.nil : Rd w sz A 0 [] := ⟨by simp, fun h => absurd h (by omega)⟩
theorem Rd.below (h : Rd w sz A n xs) (hb : Below w.heap.size w w') : Rd w' sz A n xs :=
  ⟨h.1, fun hn => by
    obtain ⟨b, off, e, hl, hc⟩ := h.2 hn
    exact ⟨b, off, e, Nat.lt_of_lt_of_le hl hb.size, fun j hj => (hb.cell (p := ⟨b, off + j, none⟩) hl).trans (hc j hj)⟩⟩
theorem Rd.drewN (h : Rd w sz A n xs) (k : Nat) : Rd (w.drewN k) sz A n xs := h
theorem add_zero (g j : Nat) : (⟨g, 0, none⟩ : Addr).add j = ⟨g, j, none⟩ := by unfold Addr.add; split <;> simp_all
theorem add_off (g off j : Nat) : (⟨g, off, none⟩ : Addr).add j = ⟨g, off + j, none⟩ := by unfold Addr.add; split <;> simp_all
theorem Rd.of_own {c : Nat} (h : w.ownsRow base e sz (.slice A n c) n xs) : Rd w sz A n xs := by
  refine ⟨h.1, fun hn => ?_⟩
  rcases h.2 with ⟨_, h0⟩ | ⟨g, cap, cur, hv, _, hg, _, _, _, _⟩
  · omega
  · injection hv with hA _ hcap
    subst hA
    subst hcap
    refine ⟨g, 0, rfl, (Array.getElem?_eq_some_iff.1 hg).1, fun j hj => ?_⟩
    rw [Nat.zero_add]
    exact h.cellAt j hj
/-- The first k elements. -/
theorem Rd.take (h : Rd w sz A n xs) {k : Nat} (hk : k ≤ n) : Rd w sz A k (xs.take (k * sz)) := by
  have hle : k * sz ≤ n * sz := Nat.mul_le_mul_right _ hk
  refine ⟨by rw [List.length_take, h.1]; omega, fun hn => ?_⟩
  obtain ⟨b, off, e, hl, hc⟩ := h.2 (by omega)
  exact ⟨b, off, e, hl, fun j hj => by rw [List.getElem?_take_of_lt hj]; exact hc j (by omega)⟩
/-- The cells, for a law on append. -/
theorem Rd.news {ad : Addr} (h : Rd w sz (some ad) n xs) : ∀ j u, xs[j]? = some u → w.cell? (ad.add j) = some u := by
  intro j u hu
  have hj : j < n * sz := by rw [← h.1]; exact (List.getElem?_eq_some_iff.1 hu).1
  have hn : 0 < n := by
    rcases Nat.eq_zero_or_pos n with h0 | h0
    · subst h0; simp at hj
    · exact h0
  obtain ⟨b, off, e, _, hc⟩ := h.2 hn
  injection e with e
  subst e
  rw [add_off, hc j hj]
  exact hu
theorem own_slice (h : w.ownsRow base e sz v n xs) : ∃ A c, v = .slice A n c ∧ n ≤ c ∧ c ≤ maxLen := by
  rcases h.2 with ⟨rfl, rfl⟩ | ⟨g, cap, cur, hv, _, _, h1, h2, _⟩
  · exact ⟨none, 0, rfl, Nat.le_refl _, Nat.zero_le _⟩
  · exact ⟨_, cap, hv, h1, h2⟩
theorem own_base {base' : Nat} (h : w.ownsRow base e sz v n xs) (hb : base' ≤ base) : w.ownsRow base' e sz v n xs := by
  refine ⟨h.1, ?_⟩
  rcases h.2 with h0 | ⟨g, cap, cur, hv, hg, r⟩
  · exact .inl h0
  · exact .inr ⟨g, cap, cur, hv, by omega, r⟩
theorem own_drewN (h : w.ownsRow base e sz v n xs) (k : Nat) : (w.drewN k).ownsRow base e sz v n xs := h
theorem bel_drewN {B : Nat} {a w : World} (h : Below B a w) (n : Nat) : Below B a (w.drewN n) := ⟨h.os, h.tape, h.output, h.size, h.block⟩
end

section
variable {α : Type} {f : α → List Value} {sz : Nat}
theorem flat_len (hf : ∀ x, (f x).length = sz) (l : List α) : (l.flatMap f).length = l.length * sz := by
  induction l with
  | nil => simp
  | cons x l ih => rw [List.flatMap_cons, List.length_append, ih, hf, List.length_cons, Nat.succ_mul]; omega
theorem flat_at (hf : ∀ x, (f x).length = sz) (l : List α) (k i : Nat) (hk : k < l.length) (hi : i < sz) : (l.flatMap f)[k * sz + i]? = (f l[k])[i]? := by
  induction l generalizing k with
  | nil => exact absurd hk (by simp)
  | cons x l ih =>
    rw [List.flatMap_cons]
    cases k with
    | zero => rw [Nat.zero_mul, Nat.zero_add, List.getElem?_append_left (by rw [hf]; exact hi)]; rfl
    | succ k =>
      have := ih k (by simpa using hk)
      rw [Nat.succ_mul, List.getElem?_append_right (by rw [hf]; omega), hf, show k * sz + sz + i - sz = k * sz + i from by omega, this]
      rfl
theorem flat_snoc (l : List α) (x : α) : (l ++ [x]).flatMap f = l.flatMap f ++ f x := by simp
theorem flat_take (hf : ∀ x, (f x).length = sz) (l : List α) (k : Nat) : (l.flatMap f).take (k * sz) = (l.take k).flatMap f := by
  induction l generalizing k with
  | nil => simp
  | cons x l ih =>
    cases k with
    | zero => simp
    | succ k =>
      rw [List.flatMap_cons, List.take_succ_cons, List.flatMap_cons, Nat.succ_mul, List.take_append, hf, show k * sz + sz - sz = k * sz from by omega, ih]
      rw [List.take_of_length_le (by rw [hf]; omega)]
end

/-- The cells of a new block. -/
theorem newCells (w : World) (l : List Value) (t : TypeId) : ∀ j u, l[j]? = some u → (w.alloc (.cells l.toArray t)).cell? ((⟨w.heap.size, 0, none⟩ : Addr).add j) = some u := by
  intro j u hj
  rw [add_zero, World.cell?_alloc_at _ _ _ _ rfl]
  simpa using hj

/-- 'append(nil, x...)', x a slice that reads as news: a slice that reads as news, in new memory (nil where there is none). -/
theorem run_append_of_nil {P : Program} (w : World) (t ty e : TypeId) (i : TypeInfo) (ht : P.underlying t = some (.slice e)) (hi : P.info? e = some i) (c : Nat) :
    (Builtin.append_ #[t, t] ty #[.slice none 0 0, .slice none 0 c]).run P w = .ok (.slice none 0 0) w := by
  simp [Builtin.append_, run_underlying ht, sizeOf, typeInfo, hi, Builtin.lenOf, Builtin.firstCells]
theorem wpList_append_copy {P : Program} {w : World} {ops : Array Oper} {rest : List Oper} {o : Oper} {a : Act} {Q : Exit → Act → World → Prop} (hgd : o.guard = none) (s x : Operand) (t : TypeId)
    (ho : o.op = .call { callee := .builtin .append, args := #[s, x], argTypes := #[t, t] })
    (e : TypeId) (i : TypeInfo) (z : Value) (size bytes : Nat) (ht : P.underlying t = some (.slice e)) (hi : P.info? e = some i) (hz : i.zero = some z)
    (hsize : i.size = size) (hby : i.bytes = bytes) (hzs : z.cells.size = size) (hsz : 0 < size) (hs : a.eval s = .slice none 0 0)
    (A : Option Addr) (m c : Nat) (news : List Value) (hx : a.eval x = .slice A m c) (hr : Rd w size A m news) (h1 : ∀ u ∈ news, u.oneCell' = true)
    (h63 : m ≤ maxLen) (hbytes : m * bytes ≤ 140737488355328)
    (h : ∀ A' c' w', w'.ownsRow w.heap.size e size (.slice A' m c') m news → Below w.heap.size w w' → m ≤ c' → wpList P ops Q rest (a.put o.dst (.slice A' m c')) w') : wpList P ops Q (o :: rest) a w := by
  cases A with
  | none =>
    have hm : m = 0 := by
      rcases Nat.eq_zero_or_pos m with h0 | h0
      · exact h0
      · obtain ⟨b, off, e, _⟩ := hr.2 h0
        cases e
    subst hm
    have hn : news = [] := List.eq_nil_of_length_eq_zero (by simpa using hr.1)
    subst hn
    refine wpList_plain hgd fun K hK => ?_
    have hrun := run_append_of_nil (P := P) w t o.type e i ht hi c
    unfold Oper.wp
    simp [execOp, ho, resolve, invoke, builtin, hs, hx, hrun, Result.andThen]
    exact hK _ _ (h none 0 w (World.ownsRow_nil _ _ _ _) (Below.refl _ _) (Nat.le_refl _))
  | some ad =>
    refine wpList_append_own w hgd s x t ho w.heap.size e i z size bytes ht hi hz hsize hby hzs hsz (.slice none 0 0) 0 [] hs (World.ownsRow_nil _ _ _ _) ad m c news hx hr.1 hr.news h1 (by omega) (by rw [Nat.zero_add]; exact hbytes) (Nat.le_refl _) ?_
    intro v' w' hown hg _
    rw [Nat.zero_add, List.nil_append] at hown
    obtain ⟨A', c', rfl, hc, _⟩ := own_slice hown
    exact h A' c' w' hown ((Below.refl _ _).grown hg (Nat.le_refl _) (by simp [Value.ownBlock])) hc

/-- A slice of strings that came in. -/
theorem rd_strings {H : Type} {enc : TypeId × Value → H} {P : Program} {w : World} {t e : TypeId} {a : Option Addr} {len cap : Nat} {d : DataW H} {ps : List MemPlace}
    (ht : P.underlying t = some (.slice e)) (he : P.underlying e = some .string) (hc : P.cellsOf e = 1) (h : DataW.Trod enc P w 0 (fun _ => true) true t (.slice a len cap) d ps) :
    ∃ ss : List ByteArray, ss.length = len ∧ Rd w 1 a len (ss.map .string) ∧ len ≤ maxLen ∧ ∀ s ∈ ss, s.size ≤ maxLen := by
  obtain ⟨fuel, hf⟩ := h
  rcases open_strings ht he hc hf with ⟨hcs, _⟩ | ⟨x, l, c, ss, hcs, _, hl, hm, hz, _, hcell, hw⟩
  · simp [Value.cells] at hcs
    obtain ⟨rfl, rfl, rfl⟩ := hcs
    exact ⟨[], rfl, Rd.nil, Nat.zero_le _, by simp⟩
  · simp [Value.cells] at hcs
    obtain ⟨rfl, rfl, rfl⟩ := hcs
    have hz' : ss.length = cap := by simpa using hz
    refine ⟨ss.take len, by simp; omega, ⟨by simp; omega, fun hn => ?_⟩, by omega, fun s hs => hw s (List.mem_of_mem_take hs)⟩
    obtain ⟨b, off, spot⟩ := x
    have h0 := hcell 0 (by omega)
    have hspot : spot = none := by simpa [Addr.add] using World.cell?_spot h0
    subst hspot
    refine ⟨b, off, rfl, World.block_lt_of_cell? w _ (by simpa [Addr.add] using h0), fun j hj => ?_⟩
    have hj' : j < len := by omega
    have h1 := hcell j (by omega)
    rw [add_off] at h1
    rw [h1, List.getElem?_map, List.getElem?_take_of_lt hj', List.getD_eq_getElem?_getD, List.getElem?_eq_getElem (by omega)]
    rfl

/-- A slice of structs that came in: each element's cells, with each field's own reading. -/
theorem rd_structs {H : Type} {enc : TypeId × Value → H} {P : Program} {w : World} {t e : TypeId} {fs : Array Field} {a : Option Addr} {len cap : Nat} {d : DataW H} {ps : List MemPlace} {α : Type} [Inhabited α] {f : α → List Value} {Q : α → Prop}
    (ht : P.underlying t = some (.slice e)) (_he : P.underlying e = some (.struct fs)) (hC : P.cellsOf e = fs.size) (hf : ∀ x, (f x).length = fs.size)
    (hread : ∀ cs n y, cs.length = fs.size → DataW.trod enc P w 0 (fun _ => true) true n e cs = some y → ∃ x, cs = f x ∧ Q x)
    (hpos : 0 < fs.size) (h : DataW.Trod enc P w 0 (fun _ => true) true t (.slice a len cap) d ps) :
    ∃ l : List α, l.length = len ∧ Rd w fs.size a len (l.flatMap f) ∧ len ≤ maxLen ∧ ∀ x ∈ l, Q x := by
  obtain ⟨fuel, hfu⟩ := h
  rcases Go.Deep.open_slice ht hfu with ⟨hcs, _⟩ | ⟨x, l, c, m, n, D, Pl, hcs, _, hl, hm, hmm, _, hi⟩
  · simp [Value.cells] at hcs
    obtain ⟨rfl, rfl, rfl⟩ := hcs
    exact ⟨[], rfl, Rd.nil, Nat.zero_le _, by simp⟩
  · simp [Value.cells] at hcs
    obtain ⟨rfl, rfl, rfl⟩ := hcs
    have hmc : m = cap := by simpa using hmm
    subst hmc
    have hex : ∀ i, i < len → ∃ y : α, (∀ j, j < fs.size → w.cell? (x.add (i * fs.size + j)) = (f y)[j]?) ∧ Q y := by
      intro i hil
      obtain ⟨cs', hc, ht'⟩ := hi i (by omega)
      obtain ⟨_, hcl, hat⟩ := World.cells?_some hc
      rw [hC] at hcl hat
      obtain ⟨y, rfl, hQ⟩ := hread cs' n _ hcl ht'
      refine ⟨y, fun j hj => ?_, hQ⟩
      rw [← hat j hj, Go.Deep.add_add]
    obtain ⟨g, hg⟩ := Go.Deep.choose_lt hex
    refine ⟨(List.range len).map g, by simp, ⟨by rw [flat_len hf]; simp, fun hn => ?_⟩, by omega, ?_⟩
    · obtain ⟨b, off, spot⟩ := x
      have h0 := (hg 0 hn).1 0 hpos
      have hs : ∃ u, w.cell? ((⟨b, off, spot⟩ : Addr).add (0 * fs.size + 0)) = some u := ⟨(f (g 0))[0]'(by rw [hf]; exact hpos), by rw [h0]; exact List.getElem?_eq_getElem _⟩
      obtain ⟨u, hu⟩ := hs
      have hspot : spot = none := by simpa [Addr.add] using World.cell?_spot hu
      subst hspot
      refine ⟨b, off, rfl, World.block_lt_of_cell? w _ (by simpa [Addr.add] using hu), fun j hj => ?_⟩
      have hdiv : j / fs.size < len := Nat.div_lt_of_lt_mul (by rw [Nat.mul_comm]; exact hj)
      have hmod : j % fs.size < fs.size := Nat.mod_lt _ hpos
      have hjj : j = j / fs.size * fs.size + j % fs.size := by rw [Nat.mul_comm]; exact (Nat.div_add_mod j fs.size).symm
      have := (hg (j / fs.size) hdiv).1 (j % fs.size) hmod
      rw [← hjj, add_off] at this
      rw [this]
      conv => rhs; rw [hjj]
      rw [flat_at hf _ _ _ (by simpa using hdiv) hmod]
      simp
    · intro y hy
      obtain ⟨i, hi', rfl⟩ := List.mem_map.1 hy
      exact (hg i (List.mem_range.1 hi')).2
end Go.Proofs.Ytabmokekibgjeaa
