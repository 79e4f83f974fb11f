/-
  Of a slice that came in: its length is at most its capacity.
-/
import Derived.Test.YthffgfgejggjaaaMem
namespace Go.Proofs.Ythffgfgejggjaaa
open Go.RowKit Go.ChangeShapes Go.WideShapes
theorem rd_cap {H : Type} {enc : TypeId × Value → H} {P : Program} {w : World} {t e : TypeId} {a : Option Addr} {len cap : Nat} {d : DataW H} {ps : List MemPlace}
    (ht : P.underlying t = some (.slice e)) (h : DataW.Trod enc P w 0 (fun _ => true) true t (.slice a len cap) d ps) : len ≤ cap := by
  obtain ⟨fuel, hfu⟩ := h
  rcases Go.Deep.open_slice ht hfu with ⟨hcs, _⟩ | ⟨x, l, c, m, n, D, Pl, hcs, _, hl, _⟩
  · simp [Value.cells] at hcs
    omega
  · simp [Value.cells] at hcs
    omega
end Go.Proofs.Ythffgfgejggjaaa
