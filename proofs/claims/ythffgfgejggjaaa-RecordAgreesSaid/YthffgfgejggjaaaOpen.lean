/-
  An argument that is a slice of versions, opened.
-/
import Derived.Test.YthffgfgejggjaaaCheck
import Derived.OpenShut
namespace Go.Proofs.Ythffgfgejggjaaa
open Go.RowKit Go.ChangeShapes Go.WideShapes

theorem Try.cells27 : Try.prog.cellsOf 27 = 3 := by kernel_rfl
theorem Try.cells23 : Try.prog.cellsOf 23 = 1 := by kernel_rfl
theorem Try.cells9 : Try.prog.cellsOf 9 = 1 := by kernel_rfl
theorem Try.cells4 : Try.prog.cellsOf 4 = 1 := by kernel_rfl

theorem read_ver {H : Type} {enc : TypeId × Value → H} {w : World} (cs : List Value) (n : Nat) (y : DataW H × List MemPlace) (hl : cs.length = 3) (h : DataW.trod enc Try.prog w 0 (fun _ => true) true n 27 cs = some y) :
    ∃ v : Pl.Ver, cs = fV v ∧ 0 ≤ v.1 := by
  match cs, hl with
  | [c0, c1, c2], _ =>
    obtain ⟨xs, m, _, _, _, hxl, hf⟩ := DataW.trod_struct Try.underlying27 h
    have e0 : DataW.trod enc Try.prog w 0 (fun _ => true) true m 23 (([c0, c1, c2].drop 0).take (Try.prog.cellsOf 23)) = xs[0]? := hf 0 _ rfl
    have e1 : DataW.trod enc Try.prog w 0 (fun _ => true) true m 9 (([c0, c1, c2].drop 1).take (Try.prog.cellsOf 9)) = xs[1]? := hf 1 _ rfl
    have e2 : DataW.trod enc Try.prog w 0 (fun _ => true) true m 4 (([c0, c1, c2].drop 2).take (Try.prog.cellsOf 4)) = xs[2]? := hf 2 _ rfl
    rw [Try.cells23] at e0
    rw [Try.cells9] at e1
    rw [Try.cells4] at e2
    have hx : ∀ i, i < 3 → ∃ z, xs[i]? = some z := fun i hi => ⟨xs[i]'(by rw [hxl]; exact hi), List.getElem?_eq_getElem _⟩
    obtain ⟨z0, hz0⟩ := hx 0 (by omega)
    obtain ⟨z1, hz1⟩ := hx 1 (by omega)
    obtain ⟨z2, hz2⟩ := hx 2 (by omega)
    rw [hz0] at e0
    rw [hz1] at e1
    rw [hz2] at e2
    obtain ⟨s, hs, _, hwf⟩ := DataW.trod_int Try.underlying23 e0
    obtain ⟨t, ht, _, _⟩ := DataW.trod_string Try.underlying9 e1
    obtain ⟨b, hb, _⟩ := DataW.trod_bool Try.underlying4 e2
    injection hs with hs
    injection ht with ht
    injection hb with hb
    subst hs; subst ht; subst hb
    refine ⟨(s, t, b), rfl, ?_⟩
    simp only [Lit.wf, Bool.and_eq_true, decide_eq_true_eq] at hwf
    exact hwf.1

theorem rd_vers {H : Type} {enc : TypeId × Value → H} {w : World} {a : Option Addr} {len cap : Nat} {d : DataW H} {ps : List MemPlace}
    (h : DataW.Trod enc Try.prog w 0 (fun _ => true) true 22 (.slice a len cap) d ps) :
    ∃ l : List Pl.Ver, l.length = len ∧ Rd w 3 a len (l.flatMap fV) ∧ len ≤ maxLen ∧ ∀ x ∈ l, 0 ≤ x.1 := by
  have := rd_structs (f := fV) (Q := fun v => 0 ≤ v.1) Try.underlying22 Try.underlying27 Try.cells27 fV_len (fun cs n y hl h => read_ver cs n y hl h) (by decide) h
  exact this
theorem u64_nonneg {x : Int} (h : (Lit.int .u64 x).wf = true) : 0 ≤ x := by
  simp only [Lit.wf, Bool.and_eq_true, decide_eq_true_eq] at h
  exact h.1
end Go.Proofs.Ythffgfgejggjaaa
