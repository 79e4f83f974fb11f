/-
  Plain facts: sorted insertion keeps a list of entries ascending; the list that Keys returns; the separators of successive keys ascend. No walk.
-/
import Derived.Test.YtlkpfdmkhakkiaaMem
namespace Go.Proofs.Ytlkpfdmkhakkiaa

abbrev Ent := ByteArray × ByteArray
def Asc (l : List Ent) : Prop := l.Pairwise fun x y => bs x.1 < bs y.1

theorem put_done (e : Ent) (es acc : List Ent) : es.foldl (putStep e) (acc, true) = (acc ++ es.filter (fun x => !(bs x.1 == bs e.1)), true) := by
  induction es generalizing acc with
  | nil => simp
  | cons x es ih =>
    rw [List.foldl_cons]
    by_cases h : bs x.1 = bs e.1
    · have : putStep e (acc, true) x = (acc, true) := by simp [putStep, h]
      rw [this, ih, List.filter_cons_of_neg (by simpa using h)]
    · have : putStep e (acc, true) x = (acc ++ [x], true) := by simp [putStep, h]
      rw [this, ih, List.filter_cons_of_pos (by simpa using h), List.append_assoc]
      rfl

theorem put_fold (e : Ent) (es acc : List Ent) (h : Asc es) : es.foldl (putStep e) (acc, false) =
    if ∀ x ∈ es, bs x.1 < bs e.1 then (acc ++ es, false)
    else (acc ++ es.filter (fun x => decide (bs x.1 < bs e.1)) ++ [e] ++ es.filter (fun x => decide (bs e.1 < bs x.1)), true) := by
  induction es generalizing acc with
  | nil => simp
  | cons x es ih =>
    have h' := List.pairwise_cons.1 h
    rw [List.foldl_cons]
    by_cases hx : bs x.1 < bs e.1
    · have hne : ¬ bs x.1 = bs e.1 := fun q => Pl.lt_irr _ (q ▸ hx)
      have : putStep e (acc, false) x = (acc ++ [x], false) := by simp [putStep, hx, hne]
      rw [this, ih _ h'.2]
      have hng := Pl.lt_asy hx
      by_cases ha : ∀ y ∈ es, bs y.1 < bs e.1
      · rw [if_pos ha, if_pos (by intro y hy; rcases List.mem_cons.1 hy with rfl | hy; exact hx; exact ha y hy)]
        simp
      · rw [if_neg ha, if_neg (fun q => ha fun y hy => q y (List.mem_cons_of_mem _ hy))]
        rw [List.filter_cons_of_pos (by simpa using hx), List.filter_cons_of_neg (by simpa using hng)]
        simp
    · have hgt : ∀ y ∈ es, bs e.1 < bs y.1 := fun y hy => Pl.nlt_lt hx (h'.1 y hy)
      have hf1 : es.filter (fun y => decide (bs y.1 < bs e.1)) = [] := by
        rw [List.filter_eq_nil_iff]; intro y hy; simpa using Pl.lt_asy (hgt y hy)
      have hf2 : es.filter (fun y => decide (bs e.1 < bs y.1)) = es := by
        rw [List.filter_eq_self]; intro y hy; simpa using hgt y hy
      have hf3 : es.filter (fun y => !(bs y.1 == bs e.1)) = es := by
        rw [List.filter_eq_self]; intro y hy
        have := hgt y hy
        simp only [Bool.not_eq_true', beq_eq_false_iff_ne]
        intro q; rw [q] at this; exact Pl.lt_irr _ this
      rw [if_neg (fun q => hx (q x (List.mem_cons_self ..)))]
      rw [List.filter_cons_of_neg (by simpa using hx), hf1]
      by_cases he : bs x.1 = bs e.1
      · have : putStep e (acc, false) x = (acc ++ [e], true) := by simp [putStep, he, Pl.lt_irr]
        rw [this, put_done, hf3, List.filter_cons_of_neg (by rw [he]; simp), hf2]
        simp
      · have hxe : bs e.1 < bs x.1 := Pl.lt_or hx he
        have : putStep e (acc, false) x = (acc ++ [e] ++ [x], true) := by simp [putStep, hx, he]
        rw [this, put_done, hf3, List.filter_cons_of_pos (by simpa using hxe), hf2]
        simp

theorem put_sorted (l : List Ent) (e : Ent) (h : Asc l) : put l e = l.filter (fun x => decide (bs x.1 < bs e.1)) ++ [e] ++ l.filter (fun x => decide (bs e.1 < bs x.1)) := by
  unfold put putK
  rw [List.take_length, put_fold e l [] h]
  by_cases ha : ∀ y ∈ l, bs y.1 < bs e.1
  · rw [if_pos ha]
    have h1 : l.filter (fun x => decide (bs x.1 < bs e.1)) = l := by rw [List.filter_eq_self]; intro y hy; simpa using ha y hy
    have h2 : l.filter (fun x => decide (bs e.1 < bs x.1)) = [] := by rw [List.filter_eq_nil_iff]; intro y hy; simpa using Pl.lt_asy (ha y hy)
    simp [h1, h2]
  · rw [if_neg ha]; simp

theorem put_asc (l : List Ent) (e : Ent) (h : Asc l) : Asc (put l e) := by
  rw [put_sorted l e h]
  unfold Asc
  rw [List.pairwise_append, List.pairwise_append]
  refine ⟨⟨h.filter _, List.pairwise_singleton _ _, ?_⟩, h.filter _, ?_⟩
  · intro x hx y hy
    rw [List.mem_singleton.1 hy]
    simpa using (List.mem_filter.1 hx).2
  · intro x hx y hy
    have hy' : bs e.1 < bs y.1 := by simpa using (List.mem_filter.1 hy).2
    rcases List.mem_append.1 hx with hx | hx
    · exact Pl.lt_tr (by simpa using (List.mem_filter.1 hx).2) hy'
    · rw [List.mem_singleton.1 hx]; exact hy'

theorem put_length (l : List Ent) (e : Ent) : (put l e).length ≤ l.length + 1 := by
  unfold put
  have := putK_len e l l.length
  split <;> simp_all
theorem put_small (l : List Ent) (e : Ent) (m : Nat) (hl : ∀ x ∈ l, x.1.size ≤ m) (he : e.1.size ≤ m) (h : Asc l) : ∀ x ∈ put l e, x.1.size ≤ m := by
  rw [put_sorted l e h]
  intro x hx
  rcases List.mem_append.1 hx with hx | hx
  · rcases List.mem_append.1 hx with hx | hx
    · exact hl x (List.mem_filter.1 hx).1
    · rw [List.mem_singleton.1 hx]; exact he
  · exact hl x (List.mem_filter.1 hx).1

/-- A string cut at 32 bytes. -/
def cut32 (s : ByteArray) : ByteArray := s.extract 0 (min s.size 32)
theorem cut32_size (s : ByteArray) : (cut32 s).size ≤ 32 := by unfold cut32; rw [ByteArray.size_extract]; omega
/-- The entries behind k rounds of Keys. -/
def entsK (ss : List ByteArray) (k : Nat) : List Ent := (ss.take k).foldl (fun l s => put l (cut32 s, ByteArray.empty)) []
theorem entsK_succ (ss : List ByteArray) (k : Nat) (h : k < ss.length) : entsK ss (k + 1) = put (entsK ss k) (cut32 ss[k], ByteArray.empty) := by
  unfold entsK
  rw [List.take_succ_eq_append_getElem h, List.foldl_append]
  rfl
theorem entsK_ok (ss : List ByteArray) (k : Nat) (h : k ≤ ss.length) : (entsK ss k).length ≤ k ∧ Asc (entsK ss k) ∧ ∀ x ∈ entsK ss k, x.1.size ≤ 32 := by
  induction k with
  | zero => exact ⟨by simp [entsK], by simp [entsK, Asc], by simp [entsK]⟩
  | succ k ih =>
    obtain ⟨h1, h2, h3⟩ := ih (by omega)
    rw [entsK_succ ss k (by omega)]
    exact ⟨by have := put_length (entsK ss k) (cut32 ss[k], ByteArray.empty); omega, put_asc _ _ h2, put_small _ _ _ h3 (cut32_size _) h2⟩

/-- The keys that Keys returns. -/
def keysOf (ss : List ByteArray) (most : Nat) : List ByteArray := (entsK ss (min ss.length most)).map (·.1)
theorem keysOf_ok (ss : List ByteArray) (most : Nat) : (keysOf ss most).length ≤ most ∧ (∀ x ∈ keysOf ss most, x.size ≤ 32) ∧ (keysOf ss most).Pairwise fun x y => bs x < bs y := by
  obtain ⟨h1, h2, h3⟩ := entsK_ok ss (min ss.length most) (by omega)
  refine ⟨by unfold keysOf; rw [List.length_map]; omega, ?_, ?_⟩
  · intro x hx
    obtain ⟨y, hy, rfl⟩ := List.mem_map.1 hx
    exact h3 y hy
  · unfold keysOf; rw [List.pairwise_map]; exact h2
theorem keysOf_lt (ss : List ByteArray) (most i j : Nat) (hij : i < j) (hj : j < (keysOf ss most).length) : bs (keysOf ss most)[i] < bs (keysOf ss most)[j] :=
  List.pairwise_iff_getElem.1 (keysOf_ok ss most).2.2 i j (by omega) hj hij
end Go.Proofs.Ytlkpfdmkhakkiaa
