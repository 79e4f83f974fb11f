/-
  append of a slice to nil: a copy, as a law for the walk.
-/
import Derived.Test.YthffgfgejggjaaaMem
namespace Go.Proofs.Ythffgfgejggjaaa
open Go.RowKit

/-- 'append(nil, x...)', x a slice that reads as news: a slice that reads as news, in new memory (nil where there is none). -/
theorem run_append_of_nil {P : Program} (w : World) (t ty e : TypeId) (i : TypeInfo) (ht : P.underlying t = some (.slice e)) (hi : P.info? e = some i) (c : Nat) :
    (Builtin.append_ #[t, t] ty #[.slice none 0 0, .slice none 0 c]).run P w = .ok (.slice none 0 0) w := by
  simp [Builtin.append_, run_underlying ht, sizeOf, typeInfo, hi, Builtin.lenOf, Builtin.firstCells]
theorem wpList_append_copy {P : Program} {w : World} {ops : Array Oper} {rest : List Oper} {o : Oper} {a : Act} {Q : Exit → Act → World → Prop} (hgd : o.guard = none) (s x : Operand) (t : TypeId)
    (ho : o.op = .call { callee := .builtin .append, args := #[s, x], argTypes := #[t, t] })
    (e : TypeId) (i : TypeInfo) (z : Value) (size bytes : Nat) (ht : P.underlying t = some (.slice e)) (hi : P.info? e = some i) (hz : i.zero = some z)
    (hsize : i.size = size) (hby : i.bytes = bytes) (hzs : z.cells.size = size) (hsz : 0 < size) (hs : a.eval s = .slice none 0 0)
    (A : Option Addr) (m c : Nat) (news : List Value) (hx : a.eval x = .slice A m c) (hr : Rd w size A m news) (h1 : ∀ u ∈ news, u.oneCell' = true)
    (h63 : m ≤ maxLen) (hbytes : m * bytes ≤ 140737488355328)
    (h : ∀ A' c' w', w'.ownsRow w.heap.size e size (.slice A' m c') m news → Below w.heap.size w w' → m ≤ c' → wpList P ops Q rest (a.put o.dst (.slice A' m c')) w') : wpList P ops Q (o :: rest) a w := by
  cases A with
  | none =>
    have hm : m = 0 := by
      rcases Nat.eq_zero_or_pos m with h0 | h0
      · exact h0
      · obtain ⟨b, off, e, _⟩ := hr.2 h0
        cases e
    subst hm
    have hn : news = [] := List.eq_nil_of_length_eq_zero (by simpa using hr.1)
    subst hn
    refine wpList_plain hgd fun K hK => ?_
    have hrun := run_append_of_nil (P := P) w t o.type e i ht hi c
    unfold Oper.wp
    simp [execOp, ho, resolve, invoke, builtin, hs, hx, hrun, Result.andThen]
    exact hK _ _ (h none 0 w (World.ownsRow_nil _ _ _ _) (Below.refl _ _) (Nat.le_refl _))
  | some ad =>
    refine wpList_append_own w hgd s x t ho w.heap.size e i z size bytes ht hi hz hsize hby hzs hsz (.slice none 0 0) 0 [] hs (World.ownsRow_nil _ _ _ _) ad m c news hx hr.1 hr.news h1 (by omega) (by rw [Nat.zero_add]; exact hbytes) (Nat.le_refl _) ?_
    intro v' w' hown hg _
    rw [Nat.zero_add, List.nil_append] at hown
    obtain ⟨A', c', rfl, hc, _⟩ := own_slice hown
    exact h A' c' w' hown ((Below.refl _ _).grown hg (Nat.le_refl _) (by simp [Value.ownBlock])) hc

end Go.Proofs.Ythffgfgejggjaaa
