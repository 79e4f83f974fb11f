/-
  Words for memory: a slice value that reads as a list of cells; a row of the call's own; what a world keeps. And a list of entries with its sorted insertion (no program).
-/
import Derived.Test.YtlkpfdmkhakkiaaLeaf
import Derived.Deep.Draws
import Derived.Laws.OwnMore
import Derived.OwnWalk
namespace Go.Proofs.Ytlkpfdmkhakkiaa
open Go.RowKit

/-- The slice of n elements of sz cells at A reads as the cells xs. -/
def Rd (w : World) (sz : Nat) (A : Option Addr) (n : Nat) (xs : List Value) : Prop :=
  xs.length = n * sz ∧ (0 < n → ∃ b off, A = some ⟨b, off, none⟩ ∧ b < w.heap.size ∧ ∀ j, j < n * sz → w.cell? ⟨b, off + j, none⟩ = xs[j]?)

theorem Rd.below {w w' : World} {sz : Nat} {A : Option Addr} {n : Nat} {xs : List Value} (h : Rd w sz A n xs) (hb : Below w.heap.size w w') : Rd w' sz A n xs :=
  ⟨h.1, fun hn => by
    obtain ⟨b, off, e, hl, hc⟩ := h.2 hn
    exact ⟨b, off, e, Nat.lt_of_lt_of_le hl hb.size, fun j hj => (hb.cell (p := ⟨b, off + j, none⟩) hl).trans (hc j hj)⟩⟩

theorem add_zero (g j : Nat) : (⟨g, 0, none⟩ : Addr).add j = ⟨g, j, none⟩ := by unfold Addr.add; split <;> simp_all

theorem Rd.of_own {w : World} {base : Nat} {e : TypeId} {sz n c : Nat} {A : Option Addr} {xs : List Value} (h : w.ownsRow base e sz (.slice A n c) n xs) : Rd w sz A n xs := by
  refine ⟨h.1, fun hn => ?_⟩
  rcases h.2 with ⟨_, h0⟩ | ⟨g, cap, cur, hv, _, hg, _, _, _, _⟩
  · omega
  · injection hv with hA _ hcap
    subst hA
    subst hcap
    refine ⟨g, 0, rfl, (Array.getElem?_eq_some_iff.1 hg).1, fun j hj => ?_⟩
    rw [Nat.zero_add]
    exact h.cellAt j hj

theorem own_slice {w : World} {base : Nat} {e : TypeId} {sz n : Nat} {v : Value} {xs : List Value} (h : w.ownsRow base e sz v n xs) : ∃ A c, v = .slice A n c ∧ n ≤ c ∧ c ≤ maxLen := by
  rcases h.2 with ⟨rfl, rfl⟩ | ⟨g, cap, cur, hv, _, _, h1, h2, _⟩
  · exact ⟨none, 0, rfl, Nat.le_refl _, Nat.zero_le _⟩
  · exact ⟨_, cap, hv, h1, h2⟩

theorem own_base {w : World} {base base' : Nat} {e : TypeId} {sz n : Nat} {v : Value} {xs : List Value} (h : w.ownsRow base e sz v n xs) (hb : base' ≤ base) : w.ownsRow base' e sz v n xs := by
  refine ⟨h.1, ?_⟩
  rcases h.2 with h0 | ⟨g, cap, cur, hv, hg, r⟩
  · exact .inl h0
  · exact .inr ⟨g, cap, cur, hv, by omega, r⟩

theorem own_drewN {w : World} {base : Nat} {e : TypeId} {sz n : Nat} {v : Value} {xs : List Value} (h : w.ownsRow base e sz v n xs) (k : Nat) : (w.drewN k).ownsRow base e sz v n xs := h
theorem bel_drewN {B : Nat} {a w : World} (h : Below B a w) (n : Nat) : Below B a (w.drewN n) := ⟨h.os, h.tape, h.output, h.size, h.block⟩

/-- A list of entries as cells. -/
def cellsE (l : List (ByteArray × ByteArray)) : List Value := l.flatMap fun x => [.string x.1, .string x.2]
theorem cellsE_len (l : List (ByteArray × ByteArray)) : (cellsE l).length = l.length * 2 := by
  induction l with
  | nil => rfl
  | cons x l ih => simp only [cellsE, List.flatMap_cons, List.length_append, List.length_cons, List.length_nil] at ih ⊢; omega
theorem cellsE_at0 (l : List (ByteArray × ByteArray)) (k : Nat) (h : k < l.length) : (cellsE l)[k * 2]? = some (.string l[k].1) := by
  induction l generalizing k with
  | nil => exact absurd h (by simp)
  | cons x l ih =>
    cases k with
    | zero => rfl
    | succ k =>
      have := ih k (by simpa using h)
      simp only [cellsE, List.flatMap_cons] at this ⊢
      rw [show (k + 1) * 2 = k * 2 + 2 from by omega]
      simpa using this
theorem cellsE_at1 (l : List (ByteArray × ByteArray)) (k : Nat) (h : k < l.length) : (cellsE l)[k * 2 + 1]? = some (.string l[k].2) := by
  induction l generalizing k with
  | nil => exact absurd h (by simp)
  | cons x l ih =>
    cases k with
    | zero => rfl
    | succ k =>
      have := ih k (by simpa using h)
      simp only [cellsE, List.flatMap_cons] at this ⊢
      rw [show (k + 1) * 2 + 1 = k * 2 + 1 + 2 from by omega]
      simpa using this
theorem cellsE_snoc (l : List (ByteArray × ByteArray)) (x : ByteArray × ByteArray) : cellsE (l ++ [x]) = cellsE l ++ [.string x.1, .string x.2] := by
  simp [cellsE]

/-- One round of Put: what has been gathered, and whether e is in. -/
def putStep (e : ByteArray × ByteArray) (s : List (ByteArray × ByteArray) × Bool) (x : ByteArray × ByteArray) : List (ByteArray × ByteArray) × Bool :=
  let t := if s.2 = false ∧ ¬ bs x.1 < bs e.1 then (s.1 ++ [e], true) else s
  if bs x.1 = bs e.1 then t else (t.1 ++ [x], t.2)
def putK (e : ByteArray × ByteArray) (l : List (ByteArray × ByteArray)) (k : Nat) : List (ByteArray × ByteArray) × Bool := (l.take k).foldl (putStep e) ([], false)
def put (l : List (ByteArray × ByteArray)) (e : ByteArray × ByteArray) : List (ByteArray × ByteArray) :=
  if (putK e l l.length).2 then (putK e l l.length).1 else (putK e l l.length).1 ++ [e]
theorem putK_succ (e : ByteArray × ByteArray) (l : List (ByteArray × ByteArray)) (k : Nat) (h : k < l.length) : putK e l (k + 1) = putStep e (putK e l k) l[k] := by
  unfold putK
  rw [List.take_succ_eq_append_getElem h, List.foldl_append]
  rfl
theorem putK_len (e : ByteArray × ByteArray) (l : List (ByteArray × ByteArray)) (k : Nat) : (putK e l k).1.length ≤ k + (if (putK e l k).2 then 1 else 0) := by
  induction k with
  | zero => simp [putK]
  | succ k ih =>
    by_cases h : k < l.length
    · rw [putK_succ e l k h]
      unfold putStep
      split <;> split <;> simp_all <;> omega
    · have h1 : putK e l (k + 1) = putK e l k := by
        unfold putK
        rw [List.take_of_length_le (by omega), List.take_of_length_le (by omega)]
      rw [h1]; omega
theorem putK_le (e : ByteArray × ByteArray) (l : List (ByteArray × ByteArray)) (k : Nat) : (putK e l k).1.length ≤ k + 1 := by
  have := putK_len e l k
  split at this <;> omega
end Go.Proofs.Ytlkpfdmkhakkiaa
