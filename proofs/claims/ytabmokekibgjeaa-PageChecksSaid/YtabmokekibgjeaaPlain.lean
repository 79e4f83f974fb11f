/-
  Plain facts: byte strings in order; lists of slots with ascending keys. No program in sight.
-/
import GoSem.Op.String
import Derived.Lib.Strings
namespace Go.Proofs.Ytabmokekibgjeaa

/-- A string's bytes, behind a name that simp leaves alone. -/
def bs (s : ByteArray) : List UInt8 := s.data.toList
theorem tl (s : ByteArray) : s.toList = bs s := Lib.toList_data s
theorem ba_ext {a b : ByteArray} (h : bs a = bs b) : a = b := by
  cases a; cases b
  simpa [bs] using h
theorem bs_mk (l : List UInt8) : bs ⟨l.toArray⟩ = l := rfl
theorem bs_len (a : ByteArray) : (bs a).length = a.size := rfl
theorem ex0 (b : ByteArray) (n : Nat) : b.extract 0 n = ⟨((bs b).take n).toArray⟩ := by
  rw [Lib.extract_eq]; simp [bs]
theorem bs_ex0 (b : ByteArray) (n : Nat) : bs (b.extract 0 n) = (bs b).take n := by rw [ex0]; rfl
theorem bs_beq (a b : ByteArray) : (bs a == bs b) = decide (a = b) := by
  by_cases h : a = b
  · subst h; simp
  · rw [decide_eq_false h, beq_eq_false_iff_ne]
    exact fun e => h (ba_ext e)

namespace Pl
theorem bl_eq : ∀ (x y : List UInt8), Op.bytesLess x y = decide (x < y)
  | [], [] => by simp [Op.bytesLess]
  | _ :: _, [] => by simp [Op.bytesLess]
  | [], _ :: _ => by simp [Op.bytesLess]
  | a :: x, b :: y => by
    rw [Op.bytesLess, bl_eq x y]
    simp only [List.cons_lt_cons_iff]
    by_cases h1 : a < b <;> by_cases h2 : a = b <;> by_cases h3 : x < y <;> simp [h1, h2, h3]
theorem lt_irr (x : List UInt8) : ¬ x < x := List.lt_irrefl x
theorem lt_tr {x y z : List UInt8} (h : x < y) (g : y < z) : x < z := List.lt_trans h g
theorem lt_asy {x y : List UInt8} (h : x < y) : ¬ y < x := fun g => lt_irr _ (lt_tr h g)
theorem eq_of {x y : List UInt8} (h : ¬ x < y) (g : ¬ y < x) : x = y := List.le_antisymm (List.not_lt.1 g) (List.not_lt.1 h)
theorem lt_or {x y : List UInt8} (h : ¬ x < y) (g : x ≠ y) : y < x := by
  by_cases k : y < x
  · exact k
  · exact absurd (eq_of h k) g
theorem nil_nlt (x : List UInt8) : ¬ x < [] := List.not_lt_nil x
theorem le_dec (x y : List UInt8) : (decide (x < y) || x == y) = !decide (y < x) := by
  by_cases h : x < y
  · simp [h, lt_asy h]
  · by_cases g : y < x
    · have : x ≠ y := by rintro rfl; exact h g
      simp [h, g, this]
    · have := eq_of h g
      subst this
      simp [lt_irr]
theorem gt_dec (x y : List UInt8) : (!decide (x < y) && !(x == y)) = decide (y < x) := by
  have := le_dec x y
  rw [← Bool.not_or, this, Bool.not_not]
theorem lt_ne {x y : List UInt8} (h : x < y) : (x == y) = false := by
  rw [beq_eq_false_iff_ne]; rintro rfl; exact lt_irr _ h
theorem gt_ne {x y : List UInt8} (h : y < x) : (x == y) = false := by
  rw [beq_eq_false_iff_ne]; rintro rfl; exact lt_irr _ h

def cmp (x y : List UInt8) : Int := if x < y then -1 else if y < x then 1 else 0

/-- A slot: its key and its reference. -/
abbrev Slot := ByteArray × Int
/-- The number of lesser keys; whether a key is there. -/
def cnt (k : List UInt8) (l : List Slot) : Nat := l.countP (fun x => decide (bs x.1 < k))
def has (k : List UInt8) (l : List Slot) : Bool := l.any (fun x => bs x.1 == k)
def Asc (l : List Slot) : Prop := l.Pairwise (fun x y => bs x.1 < bs y.1)

theorem cnt_le (k : List UInt8) (l : List Slot) : cnt k l ≤ l.length := List.countP_le_length
theorem cnt_snoc (k : List UInt8) (l : List Slot) (x : Slot) : cnt k (l ++ [x]) = cnt k l + if bs x.1 < k then 1 else 0 := by
  unfold cnt
  rw [List.countP_append, List.countP_singleton]
  by_cases h : bs x.1 < k <;> simp [h]
theorem has_snoc (k : List UInt8) (l : List Slot) (x : Slot) : has k (l ++ [x]) = (has k l || bs x.1 == k) := by
  unfold has
  simp
theorem cnt_app (k : List UInt8) (l r : List Slot) : cnt k (l ++ r) = cnt k l + cnt k r := List.countP_append
theorem cnt_zero {k : List UInt8} {l : List Slot} (h : ∀ x ∈ l, ¬ bs x.1 < k) : cnt k l = 0 := by
  unfold cnt
  rw [List.countP_eq_zero]
  intro x hx
  simpa using h x hx
theorem cnt_all {k : List UInt8} {l : List Slot} (h : ∀ x ∈ l, bs x.1 < k) : cnt k l = l.length := by
  unfold cnt
  rw [List.countP_eq_length]
  intro x hx
  simpa using h x hx
theorem cnt_iff {k : List UInt8} {l : List Slot} (ha : Asc l) (i : Nat) (h : i < l.length) : bs l[i].1 < k ↔ i < cnt k l := by
  induction l generalizing i with
  | nil => exact absurd h (by simp)
  | cons x l ih =>
    obtain ⟨h1, h2⟩ := List.pairwise_cons.1 ha
    by_cases hx : bs x.1 < k
    · have hc : cnt k (x :: l) = cnt k l + 1 := by unfold cnt; rw [List.countP_cons]; simp [hx]
      cases i with
      | zero => simp [hx, hc]
      | succ i =>
        rw [List.getElem_cons_succ, ih h2 i (by simpa using h), hc]
        omega
    · have hc : cnt k (x :: l) = 0 := cnt_zero fun y hy hyk => by
        rcases List.mem_cons.1 hy with rfl | hy
        · exact hx hyk
        · exact hx (lt_tr (h1 y hy) hyk)
      rw [hc]
      refine ⟨fun hi => ?_, fun hi => absurd hi (by omega)⟩
      cases i with
      | zero => exact absurd hi hx
      | succ i => exact absurd (lt_tr (h1 (l[i]'(by simpa using h)) (List.getElem_mem _)) hi) hx
theorem asc_lt {l : List Slot} (ha : Asc l) {i j : Nat} (hij : i < j) (hj : j < l.length) : bs (l[i]'(by omega)).1 < bs l[j].1 := List.pairwise_iff_getElem.1 ha i j (by omega) hj hij
theorem has_iff {k : List UInt8} {l : List Slot} (ha : Asc l) : has k l = true ↔ ∃ h : cnt k l < l.length, bs l[cnt k l].1 = k := by
  unfold has
  rw [List.any_eq_true]
  refine ⟨?_, fun ⟨h, e⟩ => ⟨_, List.getElem_mem h, by rw [e]; simp⟩⟩
  rintro ⟨x, hx, hk⟩
  have hk := beq_iff_eq.1 hk
  obtain ⟨i, hi, rfl⟩ := List.mem_iff_getElem.1 hx
  have h1 : ¬ i < cnt k l := fun h => by
    have := (cnt_iff ha i hi).2 h
    rw [hk] at this
    exact lt_irr _ this
  have h2 : ¬ cnt k l < i := fun h => by
    have hh := asc_lt ha h hi
    rw [hk] at hh
    have := (cnt_iff (k := k) ha (cnt k l) (by omega)).1 hh
    omega
  have : i = cnt k l := by omega
  subst this
  exact ⟨hi, hk⟩

/-- A slot put in; a list of slots sorted so. -/
def ins (k : ByteArray) (r : Int) (l : List Slot) : List Slot := l.take (cnt (bs k) l) ++ (k, r) :: l.drop (cnt (bs k) l)
def put (l : List Slot) (x : Slot) : List Slot := if has (bs x.1) l = true then l else ins x.1 x.2 l
def srtK (raw : List Slot) (n : Nat) : List Slot := (raw.take n).foldl put []
def srt (raw : List Slot) : List Slot := srtK raw 40

theorem ins_len (k : ByteArray) (r : Int) (l : List Slot) : (ins k r l).length = l.length + 1 := by
  have := cnt_le (bs k) l
  simp [ins]; omega
theorem mem_take_lt {k : List UInt8} {l : List Slot} (ha : Asc l) {x : Slot} (hx : x ∈ l.take (cnt k l)) : bs x.1 < k := by
  obtain ⟨i, hi, rfl⟩ := List.mem_iff_getElem.1 hx
  rw [List.length_take] at hi
  rw [List.getElem_take]
  exact (cnt_iff ha i (by omega)).2 (by omega)
theorem mem_drop_nlt {k : List UInt8} {l : List Slot} (ha : Asc l) {x : Slot} (hx : x ∈ l.drop (cnt k l)) : ¬ bs x.1 < k := by
  obtain ⟨i, hi, rfl⟩ := List.mem_iff_getElem.1 hx
  rw [List.length_drop] at hi
  rw [List.getElem_drop]
  exact fun h => absurd ((cnt_iff ha _ (by omega)).1 h) (by omega)
theorem mem_drop_gt {k : List UInt8} {l : List Slot} (ha : Asc l) (hn : has k l = false) {x : Slot} (hx : x ∈ l.drop (cnt k l)) : k < bs x.1 := by
  refine lt_or (mem_drop_nlt ha hx) ?_
  rintro rfl
  have : has (bs x.1) l = true := List.any_eq_true.2 ⟨x, List.mem_of_mem_drop hx, by simp⟩
  rw [hn] at this
  exact Bool.false_ne_true this
theorem ins_asc {k : ByteArray} {r : Int} {l : List Slot} (ha : Asc l) (hn : has (bs k) l = false) : Asc (ins k r l) := by
  have h2 : ∀ x ∈ l.drop (cnt (bs k) l), bs k < bs x.1 := fun x hx => mem_drop_gt ha hn hx
  unfold ins Asc
  rw [List.pairwise_append]
  refine ⟨ha.sublist (List.take_sublist _ _), List.pairwise_cons.2 ⟨fun y hy => h2 y hy, ha.sublist (List.drop_sublist _ _)⟩, ?_⟩
  intro x hx y hy
  have hxk := mem_take_lt ha hx
  rcases List.mem_cons.1 hy with rfl | hy
  · exact hxk
  · exact lt_tr hxk (h2 y hy)
theorem put_asc {l : List Slot} {x : Slot} (ha : Asc l) : Asc (put l x) := by
  unfold put
  split
  · exact ha
  · exact ins_asc ha (by simpa using ‹¬ has (bs x.1) l = true›)
theorem put_len (l : List Slot) (x : Slot) : (put l x).length ≤ l.length + 1 := by
  unfold put
  split
  · omega
  · rw [ins_len]; omega
theorem srtK_zero (raw : List Slot) : srtK raw 0 = [] := by simp [srtK]
theorem srtK_succ (raw : List Slot) (k : Nat) (h : k < raw.length) : srtK raw (k + 1) = put (srtK raw k) raw[k] := by
  unfold srtK
  rw [List.take_succ_eq_append_getElem h, List.foldl_append]
  rfl
theorem srtK_ok (raw : List Slot) (k : Nat) : Asc (srtK raw k) ∧ (srtK raw k).length ≤ k := by
  induction k with
  | zero => simp [srtK_zero, Asc]
  | succ k ih =>
    by_cases h : k < raw.length
    · rw [srtK_succ raw k h]
      exact ⟨put_asc ih.1, by have := put_len (srtK raw k) raw[k]; omega⟩
    · have : srtK raw (k + 1) = srtK raw k := by unfold srtK; rw [List.take_of_length_le (by omega), List.take_of_length_le (by omega)]
      rw [this]
      exact ⟨ih.1, by omega⟩
theorem srt_eq (raw : List Slot) (k : Nat) (h : k = min raw.length 40) : srtK raw k = srt raw := by
  unfold srt srtK
  rcases Nat.lt_or_ge raw.length 40 with g | g
  · rw [show k = raw.length by omega, List.take_of_length_le (Nat.le_refl _), List.take_of_length_le (by omega)]
  · rw [show k = 40 by omega]
theorem mem_put {l : List Slot} {x y : Slot} (h : y ∈ put l x) : y = x ∨ y ∈ l := by
  unfold put at h
  split at h
  · exact .inr h
  · unfold ins at h
    rcases List.mem_append.1 h with h | h
    · exact .inr (List.mem_of_mem_take h)
    · rcases List.mem_cons.1 h with h | h
      · exact .inl h
      · exact .inr (List.mem_of_mem_drop h)
theorem mem_srtK {raw : List Slot} {y : Slot} (k : Nat) (h : y ∈ srtK raw k) : y ∈ raw := by
  induction k with
  | zero => simp [srtK_zero] at h
  | succ k ih =>
    by_cases hk : k < raw.length
    · rw [srtK_succ raw k hk] at h
      rcases mem_put h with rfl | h
      · exact List.getElem_mem _
      · exact ih h
    · have : srtK raw (k + 1) = srtK raw k := by unfold srtK; rw [List.take_of_length_le (by omega), List.take_of_length_le (by omega)]
      rw [this] at h
      exact ih h

/-- The slot with an index, or none. -/
def at_ (l : List Slot) (i : Int) : Slot × Bool := if h : 0 ≤ i ∧ i < l.length then (l[i.toNat]'(by omega), true) else ((⟨#[]⟩, 0), false)
def child (k : List UInt8) (l : List Slot) : Slot × Bool := at_ l (if has k l = true then (cnt k l : Int) else (cnt k l : Int) - 1)
def below (k : List UInt8) (last : Bool) (l : List Slot) : Slot × Bool := at_ l (if last = true then (l.length : Int) - 1 else (cnt k l : Int) - 1)
theorem at_in {l : List Slot} {i : Nat} (h : i < l.length) : at_ l i = (l[i], true) := by
  unfold at_
  rw [dif_pos (by omega)]
  rfl
theorem at_out {l : List Slot} {i : Int} (h : i < 0 ∨ (l.length : Int) ≤ i) : at_ l i = ((⟨#[]⟩, 0), false) := by
  unfold at_
  rw [dif_neg (by omega)]
end Pl
end Go.Proofs.Ytabmokekibgjeaa
