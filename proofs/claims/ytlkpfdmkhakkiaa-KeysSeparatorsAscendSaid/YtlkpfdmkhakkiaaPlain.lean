/-
  Plain facts on byte strings: the order, separators, successors. No program in sight.
-/
import GoSem.Op.String
namespace Go.Proofs.Ytlkpfdmkhakkiaa.Pl

theorem bl_eq : ∀ (x y : List UInt8), Op.bytesLess x y = decide (x < y)
  | [], [] => by simp [Op.bytesLess]
  | _ :: _, [] => by simp [Op.bytesLess]
  | [], _ :: _ => by simp [Op.bytesLess]
  | a :: x, b :: y => by
    rw [Op.bytesLess, bl_eq x y]
    simp only [List.cons_lt_cons_iff]
    by_cases h1 : a < b <;> by_cases h2 : a = b <;> by_cases h3 : x < y <;> simp [h1, h2, h3]

theorem lt_irr (x : List UInt8) : ¬ x < x := List.lt_irrefl x
theorem lt_tr {x y z : List UInt8} (h : x < y) (g : y < z) : x < z := List.lt_trans h g
theorem lt_asy {x y : List UInt8} (h : x < y) : ¬ y < x := fun g => lt_irr _ (lt_tr h g)
theorem eq_of {x y : List UInt8} (h : ¬ x < y) (g : ¬ y < x) : x = y := List.le_antisymm (List.not_lt.1 g) (List.not_lt.1 h)
theorem lt_or {x y : List UInt8} (h : ¬ x < y) (g : x ≠ y) : y < x := by
  by_cases k : y < x
  · exact k
  · exact absurd (eq_of h k) g
theorem nlt_tr {x y z : List UInt8} (h : ¬ y < x) (g : ¬ z < y) : ¬ z < x := by
  intro k
  by_cases e : x < y
  · exact g (lt_tr k e)
  · exact g (eq_of e h ▸ k)
theorem lt_nlt {x y z : List UInt8} (h : x < y) (g : ¬ z < y) : x < z := by
  by_cases e : y < z
  · exact lt_tr h e
  · exact eq_of e g ▸ h
theorem nlt_lt {x y z : List UInt8} (h : ¬ y < x) (g : y < z) : x < z := by
  by_cases e : x < y
  · exact lt_tr e g
  · exact eq_of e h ▸ g
theorem nil_nlt (x : List UInt8) : ¬ x < [] := List.not_lt_nil x

theorem take_nlt (b : List UInt8) (n : Nat) : ¬ b < b.take n := by
  induction b generalizing n with
  | nil => simp
  | cons c b ih =>
    cases n with
    | zero => simp
    | succ n =>
      rw [List.take_succ_cons, List.cons_lt_cons_iff]
      rintro (h | ⟨-, h⟩)
      · exact UInt8.lt_irrefl c h
      · exact ih n h

theorem le_dec (x y : List UInt8) : (decide (x < y) || x == y) = !decide (y < x) := by
  by_cases h : x < y
  · simp [h, lt_asy h]
  · by_cases g : y < x
    · have : x ≠ y := by rintro rfl; exact h g
      simp [h, g, this]
    · have := eq_of h g
      subst this
      simp [lt_irr]

theorem gt_dec (x y : List UInt8) : (!decide (x < y) && !(x == y)) = decide (y < x) := by
  have := le_dec x y
  rw [← Bool.not_or, this, Bool.not_not]

/-- The first prefix of b, from length n on, that is greater than a. -/
def sepFrom (a b : List UInt8) : (f n : Nat) → List UInt8
  | 0, _ => []
  | f + 1, n => if a < b.take n then b.take n else sepFrom a b f (n + 1)
def sep (a b : List UInt8) : List UInt8 := sepFrom a b b.length 1

theorem sepFrom_hit {a b : List UInt8} {f n : Nat} (h : a < b.take n) : sepFrom a b (f + 1) n = b.take n := by simp [sepFrom, h]
theorem sepFrom_miss {a b : List UInt8} {f n : Nat} (h : ¬ a < b.take n) : sepFrom a b (f + 1) n = sepFrom a b f (n + 1) := by simp [sepFrom, h]
theorem sepFrom_zero (a b : List UInt8) : sepFrom a b (b.length + 1) 0 = sep a b := by
  rw [sepFrom_miss (by simp)]; rfl

theorem sepFrom_cases (a b : List UInt8) : ∀ f n, (∃ m, n ≤ m ∧ m < n + f ∧ sepFrom a b f n = b.take m ∧ a < b.take m ∧ ∀ j, n ≤ j → j < m → ¬ a < b.take j) ∨ (sepFrom a b f n = [] ∧ ∀ j, n ≤ j → j < n + f → ¬ a < b.take j)
  | 0, n => .inr ⟨rfl, fun j h g => by omega⟩
  | f + 1, n => by
    by_cases h : a < b.take n
    · exact .inl ⟨n, Nat.le_refl _, by omega, sepFrom_hit h, h, fun j _ _ => by omega⟩
    · rw [sepFrom_miss h]
      rcases sepFrom_cases a b f (n + 1) with ⟨m, h1, h2, h3, h4, h5⟩ | ⟨h1, h2⟩
      · refine .inl ⟨m, by omega, by omega, h3, h4, fun j g1 g2 => ?_⟩
        by_cases e : j = n
        · subst e; exact h
        · exact h5 j (by omega) g2
      · refine .inr ⟨h1, fun j g1 g2 => ?_⟩
        by_cases e : j = n
        · subst e; exact h
        · exact h2 j (by omega) (by omega)

/-- Of a < b the separator is a prefix of b, of length 1 at least, greater than a, and no shorter prefix is. -/
theorem sep_of_lt {a b : List UInt8} (h : a < b) : ∃ m, 1 ≤ m ∧ m ≤ b.length ∧ sep a b = b.take m ∧ (sep a b).length = m ∧ a < sep a b ∧ ¬ b < sep a b ∧ ¬ a < b.take (m - 1) := by
  have hb : b ≠ [] := by rintro rfl; exact nil_nlt _ h
  have hl : 1 ≤ b.length := by cases b <;> simp_all
  rcases sepFrom_cases a b b.length 1 with ⟨m, h1, h2, h3, h4, h5⟩ | ⟨h1, h2⟩
  · refine ⟨m, h1, by omega, h3, ?_, ?_, ?_, ?_⟩
    · show (sepFrom a b b.length 1).length = m
      rw [h3, List.length_take]; omega
    · show a < sepFrom a b b.length 1
      rw [h3]; exact h4
    · show ¬ b < sepFrom a b b.length 1
      rw [h3]; exact take_nlt b m
    · by_cases e : m = 1
      · subst e; simp
      · exact h5 (m - 1) (by omega) (by omega)
  · exact absurd (by rw [List.take_length]; exact h) (h2 b.length hl (by omega))
theorem sep_self (a : List UInt8) : sep a a = [] := by
  rcases sepFrom_cases a a a.length 1 with ⟨m, _, _, _, h4, _⟩ | ⟨h1, _⟩
  · exact absurd h4 (take_nlt a m)
  · exact h1
theorem sep_le (a b : List UInt8) : (sep a b).length ≤ b.length := by
  rcases sepFrom_cases a b b.length 1 with ⟨m, h1, h2, h3, _⟩ | ⟨h1, _⟩
  · show (sepFrom a b b.length 1).length ≤ _
    rw [h3, List.length_take]; omega
  · show (sepFrom a b b.length 1).length ≤ _
    rw [h1]; simp

theorem lt_snoc (a : List UInt8) (c : UInt8) : a < a ++ [c] := by
  induction a with
  | nil => simp
  | cons x a ih => rw [List.cons_append, List.cons_lt_cons_iff]; exact .inr ⟨rfl, ih⟩
/-- No key lies between a and a followed by a byte 0. -/
theorem succ_least : ∀ (a b : List UInt8), a < b → ¬ b < a ++ [0]
  | _, [], h => absurd h (nil_nlt _)
  | [], c :: b, _ => by
    rw [List.nil_append, List.cons_lt_cons_iff]
    rintro (h | ⟨-, h⟩)
    · simp [UInt8.lt_iff_toNat_lt] at h
    · exact nil_nlt _ h
  | x :: a, c :: b, h => by
    rw [List.cons_append, List.cons_lt_cons_iff]
    rw [List.cons_lt_cons_iff] at h
    rcases h with h | ⟨rfl, h⟩
    · rintro (g | ⟨g, -⟩)
      · exact UInt8.lt_irrefl _ (UInt8.lt_trans h g)
      · subst g; exact UInt8.lt_irrefl _ h
    · rintro (g | ⟨-, g⟩)
      · exact UInt8.lt_irrefl _ g
      · exact succ_least a b h g

/-- Go's three-way comparison. -/
def cmp (a b : List UInt8) : Int := if a < b then -1 else if b < a then 1 else 0
theorem cmp_lt {a b : List UInt8} (h : a < b) : cmp a b = -1 := by simp [cmp, h]
theorem cmp_gt {a b : List UInt8} (h : b < a) : cmp a b = 1 := by simp [cmp, h, lt_asy h]
theorem cmp_eq (a : List UInt8) : cmp a a = 0 := by simp [cmp, lt_irr]
theorem cmp_bd (a b : List UInt8) : -1 ≤ cmp a b ∧ cmp a b ≤ 1 := by unfold cmp; split <;> (try split) <;> omega
theorem cmp_le {a b : List UInt8} : cmp a b ≤ 0 ↔ ¬ b < a := by
  by_cases h : a < b
  · rw [cmp_lt h]; simp [lt_asy h]
  · by_cases g : b < a
    · rw [cmp_gt g]; simp [g]
    · rw [eq_of h g, cmp_eq]; simp [lt_irr]
theorem cmp_neg (a b : List UInt8) : cmp b a = -cmp a b := by
  by_cases h : a < b
  · rw [cmp_lt h, cmp_gt h]; rfl
  · by_cases g : b < a
    · rw [cmp_gt g, cmp_lt g]
    · rw [eq_of h g, cmp_eq]; rfl
theorem cmp_beq (a b : List UInt8) : (a == b) = (cmp a b == 0) := by
  by_cases h : a < b
  · rw [cmp_lt h]; have : a ≠ b := by rintro rfl; exact lt_irr _ h
    simp [this]
  · by_cases g : b < a
    · rw [cmp_gt g]; have : a ≠ b := by rintro rfl; exact lt_irr _ g
      simp [this]
    · rw [eq_of h g, cmp_eq]; simp

def within (key low high : List UInt8) (last : Bool) : Bool := !decide (key < low) && (last || decide (key < high))
/-- Two adjacent ranges contain a key exactly if the whole range does. -/
theorem within_split {a b c k : List UInt8} {l : Bool} (h : ¬ b < a) (g : l = false → ¬ c < b) :
    within k a c l = (within k a b false || within k b c l) ∧ (within k a b false && within k b c l) = false := by
  unfold within
  by_cases h1 : k < a
  · have h2 : k < b := lt_nlt h1 h
    simp [h1, h2]
  · by_cases h2 : k < b
    · cases l
      · have h3 : k < c := lt_nlt h2 (g rfl)
        simp [h1, h2, h3]
      · simp [h1, h2]
    · simp [h1, h2]
end Go.Proofs.Ytlkpfdmkhakkiaa.Pl
