/-
  The keys of a page that came in are within the form's reach.
-/
import Derived.Test.YtabmokekibgjeaaOpen
import Derived.SizedLaws
namespace Go.Proofs.Ytabmokekibgjeaa
open Go.RowKit Go.ChangeShapes Go.WideShapes

theorem weightsAll_mem {H : Type} {P : Program} {e : TypeId} : ∀ {l : List (DataW H)} {d : DataW H}, d ∈ l → ∀ n ∈ d.weights P e, n ∈ DataW.weightsAll P e l
  | [], _, h, _, _ => absurd h (by simp)
  | d0 :: l, d, h, n, hn => by
    rw [DataW.weightsAll]
    rcases List.mem_cons.1 h with rfl | h
    · exact List.mem_append_left _ hn
    · exact List.mem_append_right _ (weightsAll_mem h n hn)

theorem keys_sized {H : Type} {enc : TypeId × Value → H} {w : World} {lv : Int} {A : Option Addr} {n c : Nat} {hi : ByteArray} {la : Bool} {ri : Int} {d : DataW H} {ps : List MemPlace}
    (h : DataW.Trod enc Try.prog w 0 (fun _ => true) true 25 (.agg #[.int .i64 lv, .slice A n c, .string hi, .bool la, .int .u64 ri]) d ps) (hw : ∀ k ∈ d.weights Try.prog 25, k ≤ reachBytes)
    {l : List Pl.Slot} (hl : l.length = n) (hr : Rd w 2 A n (l.flatMap fS)) : ∀ x ∈ l, x.1.size ≤ 140737488351232 := by
  obtain ⟨fuel, hfu⟩ := h
  obtain ⟨xs, m, _, hx, _, hxl, hf⟩ := DataW.trod_struct Try.underlying25 hfu
  injection hx with hd _
  subst hd
  have e1 : DataW.trod enc Try.prog w 0 (fun _ => true) true m 22 (([Value.int .i64 lv, .slice A n c, .string hi, .bool la, .int .u64 ri].drop 1).take (Try.prog.cellsOf 22)) = xs[1]? := hf 1 _ rfl
  rw [Try.cells22] at e1
  have hx1 : xs[1]? = some (xs[1]'(by rw [hxl]; decide)) := List.getElem?_eq_getElem _
  rw [hx1] at e1
  generalize xs[1]'(by rw [hxl]; decide) = z1 at hx1 e1
  have hw1 : ∀ k ∈ z1.1.weights Try.prog 22, k ≤ reachBytes := fun k hk => hw k (by
    simp only [DataW.weights, Try.underlying25]
    exact DataW.weights_mem_each (j := 1) (t := 22) (d := z1.1) rfl (by rw [List.getElem?_map, hx1]; rfl) k hk)
  intro x hxm
  obtain ⟨i, hil, rfl⟩ := List.mem_iff_getElem.1 hxm
  rcases DataW.trod_slice Try.underlying22 e1 with ⟨hcs, _⟩ | ⟨a, len, cap, elems, rest, n', _, hcs, hz, _, _, _, hel, hi', _⟩
  · injection hcs with hcs
    injection hcs with _ h0
    omega
  · injection hcs with hcs
    injection hcs with hA hn hc
    subst hA; subst hn; subst hc; subst hz
    have hin : i < n := by omega
    have hy := hi' i hin
    rw [List.getElem?_eq_getElem (by omega)] at hy
    obtain ⟨cs', hc, ht⟩ := Option.bind_eq_some_iff.1 hy
    rw [Try.cells32] at hc
    obtain ⟨_, hcl, hat⟩ := World.cells?_some hc
    obtain ⟨xs', m', _, hx', _, hxl', hf'⟩ := DataW.trod_struct Try.underlying32 ht
    match cs', hcl with
    | [c0, c1], _ =>
      have e0 : DataW.trod enc Try.prog w 0 (fun _ => true) true m' 9 (([c0, c1].drop 0).take (Try.prog.cellsOf 9)) = xs'[0]? := hf' 0 _ rfl
      rw [Try.cells9] at e0
      have hx0 : xs'[0]? = some (xs'[0]'(by rw [hxl']; decide)) := List.getElem?_eq_getElem _
      rw [hx0] at e0
      generalize xs'[0]'(by rw [hxl']; decide) = z0 at hx0 e0
      obtain ⟨t, ht0, hz0, _⟩ := DataW.trod_string Try.underlying9 e0
      injection ht0 with ht0
      obtain ⟨b, off, he, hbl, hcell⟩ := hr.2 (by omega)
      injection he with he
      subst he
      have h0 := hat 0 (by omega)
      have h1 := hcell (i * 2) (by omega)
      have h2 := flat_at fS_len l i 0 hil (by omega)
      rw [Nat.add_zero] at h2
      rw [h2] at h1
      rw [add_off, add_off, Nat.add_zero, h1] at h0
      have h3 : Value.string l[i].1 = c0 := by
        have : some (Value.string l[i].1) = some c0 := h0
        exact Option.some.inj this
      rw [ht0] at h3
      injection h3 with h3
      have hm : t.data.toList.length ∈ (elems[i]'(by omega)).1.weights Try.prog 32 := by
        rw [hx']
        simp only [DataW.weights, Try.underlying32]
        exact DataW.weights_mem_each (j := 0) (t := 9) (d := z0.1) rfl (by rw [List.getElem?_map, hx0]; rfl) _ (by rw [hz0]; simp [DataW.weights])
      have hmm := hw1 t.data.toList.length (by
        simp only [DataW.weights, Try.underlying22]
        exact List.mem_cons_of_mem _ (List.mem_append_left _ (weightsAll_mem (List.mem_map_of_mem (List.getElem_mem (by omega))) _ hm)))
      rw [h3]
      have e : t.data.toList.length = t.size := rfl
      rw [e] at hmm
      exact hmm
end Go.Proofs.Ytabmokekibgjeaa
