/-
  An argument that is a slice of bytes, opened.
-/
import Derived.Test.YtabmokekibgjeaaOpen
import Derived.ChangeSlices
namespace Go.Proofs.Ytabmokekibgjeaa
open Go.RowKit Go.ChangeShapes Go.WideShapes

theorem rd_ints {H : Type} {enc : TypeId × Value → H} {P : Program} {w : World} {t e : TypeId} {k : IntKind} {a : Option Addr} {len cap : Nat} {d : DataW H} {ps : List MemPlace}
    (ht : P.underlying t = some (.slice e)) (he : P.underlying e = some (.int k)) (hc : P.cellsOf e = 1) (h : DataW.Trod enc P w 0 (fun _ => true) true t (.slice a len cap) d ps) :
    ∃ ss : List Int, ss.length = len ∧ Rd w 1 a len (ss.map (.int k)) ∧ len ≤ maxLen ∧ ∀ s ∈ ss, (Lit.int k s).wf = true := by
  obtain ⟨fuel, hf⟩ := h
  rcases open_ints ht he hc hf with ⟨hcs, _⟩ | ⟨x, l, c, ss, hcs, _, hl, hm, hz, _, hcell, hw⟩
  · simp [Value.cells] at hcs
    obtain ⟨rfl, rfl, rfl⟩ := hcs
    exact ⟨[], rfl, Rd.nil, Nat.zero_le _, by simp⟩
  · simp [Value.cells] at hcs
    obtain ⟨rfl, rfl, rfl⟩ := hcs
    have hz' : ss.length = cap := by simpa using hz
    refine ⟨ss.take len, by simp; omega, ⟨by simp; omega, fun hn => ?_⟩, by omega, fun s hs => hw s (List.mem_of_mem_take hs)⟩
    obtain ⟨b, off, spot⟩ := x
    have h0 := hcell 0 (by omega)
    have hspot : spot = none := by simpa [Addr.add] using World.cell?_spot h0
    subst hspot
    refine ⟨b, off, rfl, World.block_lt_of_cell? w _ (by simpa [Addr.add] using h0), fun j hj => ?_⟩
    have hj' : j < len := by omega
    have h1 := hcell j (by omega)
    rw [add_off] at h1
    rw [h1, List.getElem?_map, List.getElem?_take_of_lt hj', List.getD_eq_getElem?_getD, List.getElem?_eq_getElem (by omega)]
    rfl
theorem u8_bd {x : Int} (h : (Lit.int .u8 x).wf = true) : 0 ≤ x ∧ x < 256 := by
  simp only [Lit.wf, Bool.and_eq_true, decide_eq_true_eq] at h
  exact ⟨h.1, Int.lt_add_one_of_le h.2⟩
end Go.Proofs.Ytabmokekibgjeaa
