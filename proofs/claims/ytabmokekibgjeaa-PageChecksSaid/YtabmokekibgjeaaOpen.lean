/-
  An argument that is a page, opened.
-/
import Derived.Test.YtabmokekibgjeaaFind
import Derived.OpenShut
namespace Go.Proofs.Ytabmokekibgjeaa
open Go.RowKit Go.ChangeShapes Go.WideShapes

theorem Try.cells32 : Try.prog.cellsOf 32 = 2 := by kernel_rfl
theorem Try.cells25 : Try.prog.cellsOf 25 = 5 := by kernel_rfl
theorem Try.cells22 : Try.prog.cellsOf 22 = 1 := by kernel_rfl
theorem Try.cells23 : Try.prog.cellsOf 23 = 1 := by kernel_rfl
theorem Try.cells9 : Try.prog.cellsOf 9 = 1 := by kernel_rfl
theorem Try.cells4 : Try.prog.cellsOf 4 = 1 := by kernel_rfl
theorem Try.cells3 : Try.prog.cellsOf 3 = 1 := by kernel_rfl

section
variable {H : Type} {enc : TypeId × Value → H} {w : World}
theorem read_slot (cs : List Value) (n : Nat) (y : DataW H × List MemPlace) (hl : cs.length = 2) (h : DataW.trod enc Try.prog w 0 (fun _ => true) true n 32 cs = some y) :
    ∃ v : Pl.Slot, cs = fS v ∧ 0 ≤ v.2 := by
  match cs, hl with
  | [c0, c1], _ =>
    obtain ⟨xs, m, _, _, _, hxl, hf⟩ := DataW.trod_struct Try.underlying32 h
    have e0 : DataW.trod enc Try.prog w 0 (fun _ => true) true m 9 (([c0, c1].drop 0).take (Try.prog.cellsOf 9)) = xs[0]? := hf 0 _ rfl
    have e1 : DataW.trod enc Try.prog w 0 (fun _ => true) true m 23 (([c0, c1].drop 1).take (Try.prog.cellsOf 23)) = xs[1]? := hf 1 _ rfl
    rw [Try.cells9] at e0
    rw [Try.cells23] at e1
    have hx : ∀ i, i < 2 → ∃ z, xs[i]? = some z := fun i hi => ⟨xs[i]'(by rw [hxl]; exact hi), List.getElem?_eq_getElem _⟩
    obtain ⟨z0, hz0⟩ := hx 0 (by omega)
    obtain ⟨z1, hz1⟩ := hx 1 (by omega)
    rw [hz0] at e0
    rw [hz1] at e1
    obtain ⟨t, ht, _, _⟩ := DataW.trod_string Try.underlying9 e0
    obtain ⟨s, hs, _, hwf⟩ := DataW.trod_int Try.underlying23 e1
    injection ht with ht
    injection hs with hs
    subst hs; subst ht
    refine ⟨(t, s), rfl, ?_⟩
    simp only [Lit.wf, Bool.and_eq_true, decide_eq_true_eq] at hwf
    exact hwf.1

theorem rd_slots {a : Option Addr} {len cap : Nat} {d : DataW H} {ps : List MemPlace}
    (h : DataW.Trod enc Try.prog w 0 (fun _ => true) true 22 (.slice a len cap) d ps) :
    ∃ l : List Pl.Slot, l.length = len ∧ Rd w 2 a len (l.flatMap fS) ∧ len ≤ maxLen ∧ ∀ x ∈ l, 0 ≤ x.2 := by
  have := rd_structs (f := fS) (Q := fun v => 0 ≤ v.2) Try.underlying22 Try.underlying32 Try.cells32 fS_len (fun cs n y hl h => read_slot cs n y hl h) (by decide) h
  exact this

theorem open_page {base : Nat} {v : Value} {d : DataW H} {ps : List MemPlace} (hok : Value.okWide Try.prog w .any base 25 v) (h : DataW.Trod enc Try.prog w 0 (fun _ => true) true 25 v d ps) :
    ∃ (lv : Int) (A : Option Addr) (n c : Nat) (hi : ByteArray) (la : Bool) (ri : Int), v = .agg #[.int .i64 lv, .slice A n c, .string hi, .bool la, .int .u64 ri] ∧ (Lit.int .i64 lv).wf = true ∧ (Lit.int .u64 ri).wf = true ∧ hi.size ≤ maxLen ∧
      ∃ l : List Pl.Slot, l.length = n ∧ Rd w 2 A n (l.flatMap fS) ∧ n ≤ maxLen ∧ ∀ x ∈ l, 0 ≤ x.2 := by
  obtain ⟨cs, rfl, hsz⟩ := okWide_struct Try.underlying25 hok
  rw [Try.cells25] at hsz
  obtain ⟨cs⟩ := cs
  match cs, hsz with
  | [c0, c1, c2, c3, c4], _ =>
    obtain ⟨fuel, hfu⟩ := h
    obtain ⟨xs, m, _, _, _, hxl, hf⟩ := DataW.trod_struct Try.underlying25 hfu
    have e0 : DataW.trod enc Try.prog w 0 (fun _ => true) true m 3 (([c0, c1, c2, c3, c4].drop 0).take (Try.prog.cellsOf 3)) = xs[0]? := hf 0 _ rfl
    have e1 : DataW.trod enc Try.prog w 0 (fun _ => true) true m 22 (([c0, c1, c2, c3, c4].drop 1).take (Try.prog.cellsOf 22)) = xs[1]? := hf 1 _ rfl
    have e2 : DataW.trod enc Try.prog w 0 (fun _ => true) true m 9 (([c0, c1, c2, c3, c4].drop 2).take (Try.prog.cellsOf 9)) = xs[2]? := hf 2 _ rfl
    have e3 : DataW.trod enc Try.prog w 0 (fun _ => true) true m 4 (([c0, c1, c2, c3, c4].drop 3).take (Try.prog.cellsOf 4)) = xs[3]? := hf 3 _ rfl
    have e4 : DataW.trod enc Try.prog w 0 (fun _ => true) true m 23 (([c0, c1, c2, c3, c4].drop 4).take (Try.prog.cellsOf 23)) = xs[4]? := hf 4 _ rfl
    rw [Try.cells3] at e0
    rw [Try.cells22] at e1
    rw [Try.cells9] at e2
    rw [Try.cells4] at e3
    rw [Try.cells23] at e4
    have hx : ∀ i, i < 5 → ∃ z, xs[i]? = some z := fun i hi => ⟨xs[i]'(by rw [hxl]; exact hi), List.getElem?_eq_getElem _⟩
    obtain ⟨z0, hz0⟩ := hx 0 (by omega)
    obtain ⟨z1, hz1⟩ := hx 1 (by omega)
    obtain ⟨z2, hz2⟩ := hx 2 (by omega)
    obtain ⟨z3, hz3⟩ := hx 3 (by omega)
    obtain ⟨z4, hz4⟩ := hx 4 (by omega)
    rw [hz0] at e0
    rw [hz1] at e1
    rw [hz2] at e2
    rw [hz3] at e3
    rw [hz4] at e4
    obtain ⟨lv, h0, _, hw0⟩ := DataW.trod_int Try.underlying3 e0
    obtain ⟨t, h2, _, hw2⟩ := DataW.trod_string Try.underlying9 e2
    obtain ⟨b, h3, _⟩ := DataW.trod_bool Try.underlying4 e3
    obtain ⟨ri, h4, _, hw4⟩ := DataW.trod_int Try.underlying23 e4
    injection h0 with h0
    injection h2 with h2
    injection h3 with h3
    injection h4 with h4
    subst h0; subst h2; subst h3; subst h4
    have hs : ∃ A n c, c1 = .slice A n c := by
      rcases Go.Deep.open_slice Try.underlying22 e1 with ⟨hcs, _⟩ | ⟨x, l, c, m', n', D, Q, hcs, _⟩
      · injection hcs with hcs
        exact ⟨_, _, _, hcs⟩
      · injection hcs with hcs
        exact ⟨_, _, _, hcs⟩
    obtain ⟨A, n, c, rfl⟩ := hs
    obtain ⟨d1, p1⟩ := z1
    exact ⟨lv, A, n, c, t, b, ri, rfl, hw0, hw4, hw2, rd_slots (d := d1) (ps := p1) ⟨m, e1⟩⟩
end
theorem u64_nonneg {x : Int} (h : (Lit.int .u64 x).wf = true) : 0 ≤ x := by
  simp only [Lit.wf, Bool.and_eq_true, decide_eq_true_eq] at h
  exact h.1
end Go.Proofs.Ytabmokekibgjeaa
