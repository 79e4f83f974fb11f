/-
  Plain facts on version chains (a version: its stamp, its value, whether it deletes). No program in sight.
-/
import Std
namespace Go.Proofs.Ythffgfgejggjaaa.Pl

abbrev Ver := Int × ByteArray × Bool
/-- Not pending, and of a stamp of at most t. -/
def hit (t : Int) (v : Ver) : Bool := (v.1 != 0) && decide (v.1 ≤ t)
/-- The position of the first version that is visible at t, or the length. -/
def fnd (l : List Ver) (t : Int) : Nat := l.findIdx (hit t)
def zero : Ver := (0, ⟨#[]⟩, false)
def vis (l : List Ver) (t : Int) : Ver := l.getD (fnd l t) zero
def seen (l : List Ver) (t : Int) : Bool := decide (fnd l t < l.length)
def cut (l : List Ver) (t : Int) : List Ver := l.take (fnd l t + 1)
def dead (l : List Ver) (t : Int) : Bool := l.isEmpty || (fnd l t == 0 && (l.headD zero).2.2)
def val (l : List Ver) (t : Int) : ByteArray := if seen l t = true ∧ (vis l t).2.2 = false then (vis l t).2.1 else ⟨#[]⟩
def has (l : List Ver) (t : Int) : Bool := seen l t && !(vis l t).2.2

theorem fnd_le (l : List Ver) (t : Int) : fnd l t ≤ l.length := List.findIdx_le_length
theorem fnd_hit {l : List Ver} {t : Int} (h : fnd l t < l.length) : hit t l[fnd l t] = true := List.findIdx_getElem (w := h)
theorem fnd_not {l : List Ver} {t : Int} {i : Nat} (h : i < fnd l t) (hl : i < l.length) : hit t l[i] = false := by
  have := List.not_of_lt_findIdx h
  simpa using this
theorem fnd_of {l : List Ver} {t : Int} {k : Nat} (hk : k < l.length) (h : hit t l[k] = true) (hn : ∀ i (hi : i < k), hit t (l[i]'(by omega)) = false) : fnd l t = k := by
  have h1 : ¬ k < fnd l t := fun g => by rw [fnd_not g hk] at h; cases h
  have h2 : ¬ fnd l t < k := fun g => by
    have := hn _ g
    rw [fnd_hit (by omega)] at this; cases this
  omega
theorem fnd_none {l : List Ver} {t : Int} (hn : ∀ i (hi : i < l.length), hit t l[i] = false) : fnd l t = l.length := by
  have h1 := fnd_le l t
  have h2 : ¬ fnd l t < l.length := fun g => by
    have := hn _ g
    rw [fnd_hit g] at this; cases this
  omega
theorem hit_mono {a b : Int} (h : a ≤ b) {v : Ver} (hv : hit a v = true) : hit b v = true := by
  simp only [hit, Bool.and_eq_true, decide_eq_true_eq] at hv ⊢
  exact ⟨hv.1, by omega⟩
theorem fnd_mono (l : List Ver) {a b : Int} (h : a ≤ b) : fnd l b ≤ fnd l a := by
  by_cases hl : fnd l a < l.length
  · have := hit_mono h (fnd_hit hl)
    apply Nat.le_of_not_lt
    intro g
    rw [fnd_not g hl] at this; cases this
  · have := fnd_le l b; have := fnd_le l a; omega

/-- What a cut leaves is searched as the whole was, from the floor upwards. -/
theorem cut_len (l : List Ver) (a : Int) : (cut l a).length = min (fnd l a + 1) l.length := by simp [cut]
theorem cut_getElem (l : List Ver) (a : Int) (i : Nat) (h : i < (cut l a).length) : (cut l a)[i] = l[i]'(by rw [cut_len] at h; omega) := by simp [cut]
theorem fnd_cut (l : List Ver) {a b : Int} (h : a ≤ b) : (fnd l b < l.length → fnd (cut l a) b = fnd l b ∧ fnd l b < (cut l a).length) ∧ (¬ fnd l b < l.length → fnd (cut l a) b = (cut l a).length ∧ cut l a = l) := by
  constructor
  · intro hl
    have hm := fnd_mono l h
    have hc : fnd l b < (cut l a).length := by rw [cut_len]; omega
    refine ⟨fnd_of hc ?_ ?_, hc⟩
    · rw [cut_getElem]; exact fnd_hit hl
    · intro i hi
      rw [cut_getElem]; exact fnd_not hi (by omega)
  · intro hl
    have e : cut l a = l := by
      have := fnd_mono l h
      unfold cut
      exact List.take_of_length_le (by omega)
    rw [e]
    exact ⟨by have := fnd_le l b; omega, rfl⟩
theorem vis_cut (l : List Ver) {a b : Int} (h : a ≤ b) : vis (cut l a) b = vis l b ∧ seen (cut l a) b = seen l b := by
  by_cases hl : fnd l b < l.length
  · obtain ⟨h1, h2⟩ := (fnd_cut l h).1 hl
    refine ⟨?_, by unfold seen; rw [h1]; simp [h2, hl]⟩
    unfold vis
    rw [h1, List.getD_eq_getElem?_getD, List.getD_eq_getElem?_getD, List.getElem?_eq_getElem h2, List.getElem?_eq_getElem hl, cut_getElem]
  · obtain ⟨_, h2⟩ := (fnd_cut l h).2 hl
    rw [h2]; exact ⟨rfl, rfl⟩
theorem cut_cut (l : List Ver) {a b : Int} (h : a ≤ b) : cut (cut l a) b = cut l b := by
  by_cases hl : fnd l b < l.length
  · obtain ⟨h1, h2⟩ := (fnd_cut l h).1 hl
    rw [cut, h1, cut, cut, List.take_take]
    have := fnd_mono l h
    rw [show min (fnd l b + 1) (fnd l a + 1) = fnd l b + 1 from by omega]
  · obtain ⟨_, h2⟩ := (fnd_cut l h).2 hl
    rw [h2]
theorem dead_mono (l : List Ver) {a b : Int} (h : a ≤ b) (hd : dead l a = true) : dead l b = true := by
  have := fnd_mono l h
  unfold dead at hd ⊢
  simp only [Bool.or_eq_true, Bool.and_eq_true, beq_iff_eq] at hd ⊢
  rcases hd with hd | ⟨h1, h2⟩
  · exact .inl hd
  · exact .inr ⟨by omega, h2⟩
/-- How many versions of a list are not pending and of a stamp of at most t. -/
def old (l : List Ver) (t : Int) : Nat := l.countP (hit t)
theorem old_cut (l : List Ver) (t : Int) : old (cut l t) t ≤ 1 := by
  unfold old cut
  rw [List.take_add_one, List.countP_append]
  have h1 : (l.take (fnd l t)).countP (hit t) = 0 := by
    rw [List.countP_eq_zero]
    intro v hv
    obtain ⟨i, hi, rfl⟩ := List.getElem_of_mem hv
    rw [List.getElem_take]
    simp only [List.length_take] at hi
    rw [fnd_not (by omega) (by omega)]
    simp
  rw [h1]
  have : (l[fnd l t]?.toList).countP (hit t) ≤ (l[fnd l t]?.toList).length := List.countP_le_length
  have : (l[fnd l t]?.toList).length ≤ 1 := by cases l[fnd l t]? <;> simp
  omega
theorem has_dead (l : List Ver) {a t : Int} (h : a ≤ t) (hd : dead l a = true) : has l t = false := by
  have hd' := dead_mono l h hd
  unfold dead at hd'
  simp only [Bool.or_eq_true, Bool.and_eq_true, beq_iff_eq] at hd'
  unfold has seen vis
  rcases hd' with hd' | ⟨h1, h2⟩
  · have : l = [] := by simpa using hd'
    subst this
    simp
  · rw [h1]
    cases l with
    | nil => simp
    | cons x l =>
      have h3 : x.2.2 = true := h2
      simp [h3]
/-- A chain that begins with a visible version and is not dead has a value. -/
theorem has_live (x : Ver) (l : List Ver) {t : Int} (h0 : x.1 ≠ 0) (ht : x.1 ≤ t) (hd : dead (x :: l) t = false) : has (x :: l) t = true := by
  have hf : fnd (x :: l) t = 0 := fnd_of (by simp) (by simp [hit, h0, ht]) (fun i hi => absurd hi (by omega))
  unfold dead at hd
  rw [hf] at hd
  have h3 : x.2.2 = false := by simpa using hd
  simp [has, seen, vis, hf, h3]

/-- A valid chain: only the first version may be pending; the stamps descend; a version that deletes has no value. -/
structure Ok (l : List Ver) : Prop where
  del : ∀ v ∈ l, v.2.2 = true → v.2.1 = ⟨#[]⟩
  pend : ∀ i (hi : i < l.length), 0 < i → 1 ≤ l[i].1
  first : ∀ h : 0 < l.length, 0 ≤ l[0].1
  desc : ∀ i j (hij : i < j) (hj : j < l.length), l[i].1 ≠ 0 → l[j].1 < (l[i]'(by omega)).1
theorem Ok.take {l : List Ver} (h : Ok l) (k : Nat) : Ok (l.take k) where
  del := fun v hv => h.del v (List.mem_of_mem_take hv)
  pend := fun i hi h0 => by rw [List.getElem_take]; exact h.pend i (by simp at hi; omega) h0
  first := fun h0 => by rw [List.getElem_take]; exact h.first (by simp at h0; omega)
  desc := fun i j hij hj => by rw [List.getElem_take, List.getElem_take]; exact h.desc i j hij (by simp at hj; omega)
theorem Ok.cut {l : List Ver} (h : Ok l) (t : Int) : Ok (cut l t) := h.take _
theorem Ok.nonneg {l : List Ver} (h : Ok l) (i : Nat) (hi : i < l.length) : 0 ≤ l[i].1 := by
  cases i with
  | zero => exact h.first hi
  | succ i => have := h.pend (i + 1) hi (by omega); omega

/-- Check, by its two definitions. -/
def chk1 (l : List Ver) : Prop := ∀ i (hi : i < l.length), ¬ (l[i].2.2 = true ∧ l[i].2.1 ≠ ⟨#[]⟩) ∧ ¬ (l[i].1 = 0 ∧ 0 < i) ∧ (0 < i → (l[i - 1]'(by omega)).1 ≠ 0 → l[i].1 < (l[i - 1]'(by omega)).1)
instance (l : List Ver) : Decidable (chk1 l) := by unfold chk1; infer_instance
theorem Ok.chk {l : List Ver} (h : Ok l) : chk1 l := fun i hi => ⟨fun ⟨h1, h2⟩ => h2 (h.del _ (List.getElem_mem hi) h1), fun ⟨h1, h2⟩ => by have := h.pend i hi h2; omega, fun h0 h1 => h.desc (i - 1) i (by omega) hi h1⟩

/-- The visible version is the one with the greatest stamp of at most t: what a search for the best finds. -/
def best (l : List Ver) (t : Int) : Ver := l.foldl (fun b v => if v.1 ≤ t ∧ b.1 < v.1 then v else b) zero
theorem best_snoc (l : List Ver) (v : Ver) (t : Int) : best (l ++ [v]) t = if v.1 ≤ t ∧ (best l t).1 < v.1 then v else best l t := by unfold best; rw [List.foldl_append]; rfl
theorem best_ok {l : List Ver} (h : Ok l) (t : Int) : ∀ k, k ≤ l.length → best (l.take k) t = if fnd l t < k then vis l t else zero := by
  intro k
  induction k with
  | zero => intro _; simp [best]
  | succ k ih =>
    intro hk
    have hkl : k < l.length := by omega
    rw [List.take_succ_eq_append_getElem hkl, best_snoc, ih (by omega)]
    by_cases h1 : fnd l t < k
    · have hfl : fnd l t < l.length := by omega
      have hv : vis l t = l[fnd l t] := by unfold vis; rw [List.getD_eq_getElem?_getD, List.getElem?_eq_getElem hfl]; rfl
      have hne : l[fnd l t].1 ≠ 0 := by
        have := fnd_hit hfl
        simp only [hit, Bool.and_eq_true, bne_iff_ne] at this
        exact this.1
      have hd := h.desc (fnd l t) k h1 hkl hne
      have h3 : fnd l t < k + 1 := by omega
      simp only [if_pos h1, if_pos h3, hv]
      exact if_neg (by omega)
    · simp only [if_neg h1]
      by_cases h2 : fnd l t = k
      · have hh := fnd_hit (l := l) (t := t) (by omega)
        have hv : vis l t = l[k] := by unfold vis; rw [h2, List.getD_eq_getElem?_getD, List.getElem?_eq_getElem hkl]; rfl
        have h3 : fnd l t < k + 1 := by omega
        simp only [if_pos h3, hv]
        simp only [h2] at hh
        simp only [hit, Bool.and_eq_true, bne_iff_ne, decide_eq_true_eq] at hh
        have := h.nonneg k hkl
        exact if_pos ⟨hh.2, by show (0 : Int) < _; omega⟩
      · have hh := fnd_not (l := l) (t := t) (i := k) (by omega) hkl
        have := h.nonneg k hkl
        have h3 : ¬ fnd l t < k + 1 := by omega
        simp only [if_neg h3]
        refine if_neg ?_
        rintro ⟨g1, g2⟩
        have g3 : (0 : Int) < l[k].1 := g2
        simp only [hit, Bool.and_eq_false_iff, bne_eq_false_iff_eq, decide_eq_false_iff_not] at hh
        omega
theorem vis_pos {l : List Ver} (h : Ok l) (t : Int) : seen l t = decide (0 < (if fnd l t < l.length then vis l t else zero).1) := by
  unfold seen
  by_cases hl : fnd l t < l.length
  · have hh := fnd_hit hl
    have hv : vis l t = l[fnd l t] := by unfold vis; rw [List.getD_eq_getElem?_getD, List.getElem?_eq_getElem hl]; rfl
    have := h.nonneg _ hl
    simp only [hit, Bool.and_eq_true, bne_iff_ne, decide_eq_true_eq] at hh
    rw [if_pos hl, hv]
    simp only [hl, decide_true]
    have : 0 < l[fnd l t].1 := by omega
    simp [this]
  · rw [if_neg hl]
    simp [hl, zero]
/-- The visible stamp grows with the time. -/
theorem vis_grows {l : List Ver} (h : Ok l) {a b : Int} (hab : a ≤ b) (hs : seen l a = true) : seen l b = true ∧ (vis l a).1 ≤ (vis l b).1 := by
  have hm := fnd_mono l hab
  have ha : fnd l a < l.length := by simpa [seen] using hs
  have hb : fnd l b < l.length := by omega
  refine ⟨by simpa [seen] using hb, ?_⟩
  unfold vis
  rw [List.getD_eq_getElem?_getD, List.getD_eq_getElem?_getD, List.getElem?_eq_getElem ha, List.getElem?_eq_getElem hb]
  show l[fnd l a].1 ≤ l[fnd l b].1
  by_cases e : fnd l b = fnd l a
  · simp [e]
  · have hne : l[fnd l b].1 ≠ 0 := by
      have := fnd_hit hb
      simp only [hit, Bool.and_eq_true, bne_iff_ne] at this
      exact this.1
    have := h.desc (fnd l b) (fnd l a) (by omega) ha hne
    omega
theorem vis_le {l : List Ver} {b : Int} (hs : seen l b = true) : (vis l b).1 ≤ b := by
  have hb : fnd l b < l.length := by simpa [seen] using hs
  have := fnd_hit hb
  unfold vis
  rw [List.getD_eq_getElem?_getD, List.getElem?_eq_getElem hb]
  simp only [hit, Bool.and_eq_true, decide_eq_true_eq] at this
  exact this.2

/-- The chains that the law makes: newest first. -/
def mk (next : Int) (v : Ver) : Ver := (next, if v.2.2 then ⟨#[]⟩ else v.2.1, v.2.2)
def step (s : List Ver × Int) (v : Ver) : List Ver × Int := (mk s.2 v :: s.1, s.2 + 1 + v.1 % 5)
def madeK (raw : List Ver) (k : Nat) : List Ver × Int := (raw.take k).foldl step ([], 1)
theorem madeK_succ (raw : List Ver) (k : Nat) (h : k < raw.length) : madeK raw (k + 1) = step (madeK raw k) raw[k] := by
  unfold madeK
  rw [List.take_succ_eq_append_getElem h, List.foldl_append]
  rfl
/-- The first version made pending. -/
def pend (p : Bool) (l : List Ver) : List Ver := match p, l with
  | true, v :: l => (0, v.2) :: l
  | _, l => l
def made (raw : List Ver) (p : Bool) : List Ver := pend p (madeK raw (min raw.length 30)).1
theorem madeK_ok (raw : List Ver) (k : Nat) (h : k ≤ raw.length) : (madeK raw k).1.length = k ∧ 1 ≤ (madeK raw k).2 ∧ (madeK raw k).2 ≤ 1 + 5 * k ∧ Ok (madeK raw k).1 ∧
    (∀ v ∈ (madeK raw k).1, 1 ≤ v.1 ∧ v.1 < (madeK raw k).2) := by
  induction k with
  | zero => exact ⟨rfl, by simp [madeK], by simp [madeK], ⟨by simp [madeK], by simp [madeK], by simp [madeK], by simp [madeK]⟩, by simp [madeK]⟩
  | succ k ih =>
    obtain ⟨h1, h2, h3, h4, h5⟩ := ih (by omega)
    rw [madeK_succ raw k (by omega)]
    generalize raw[k] = rk
    generalize madeK raw k = s at h1 h2 h3 h4 h5
    obtain ⟨l, next⟩ := s
    dsimp only at h1 h2 h3 h4 h5
    have hm := Int.emod_nonneg rk.1 (show (5 : Int) ≠ 0 by decide)
    have hm2 := Int.emod_lt_of_pos rk.1 (show (0 : Int) < 5 by decide)
    refine ⟨by simp [step, h1], by show 1 ≤ next + 1 + _; omega, by show next + 1 + _ ≤ _; omega, ⟨?_, ?_, ?_, ?_⟩, ?_⟩
    · intro v hv
      rcases List.mem_cons.1 hv with rfl | hv
      · intro hd
        have hd' : rk.2.2 = true := hd
        show (if rk.2.2 = true then _ else _) = _
        rw [if_pos hd']
      · exact h4.del v hv
    · intro i hi h0
      cases i with
      | zero => omega
      | succ i => exact (h5 _ (List.getElem_mem _)).1
    · intro _
      show 0 ≤ next
      omega
    · intro i j hij hj hne
      cases j with
      | zero => omega
      | succ j =>
        cases i with
        | zero => exact (h5 _ (List.getElem_mem _)).2
        | succ i => exact h4.desc i j (by omega) (by simpa [step] using hj) hne
    · intro v hv
      rcases List.mem_cons.1 hv with rfl | hv
      · exact ⟨h2, by show next < next + 1 + _; omega⟩
      · have := h5 v hv
        exact ⟨this.1, by show v.1 < next + 1 + _; omega⟩
theorem pend_len (p : Bool) (l : List Ver) : (pend p l).length = l.length := by
  cases p <;> cases l <;> rfl
theorem pend_ok {l : List Ver} (h : Ok l) (p : Bool) : Ok (pend p l) := by
  cases p with
  | false => cases l <;> exact h
  | true =>
    cases l with
    | nil => exact h
    | cons v l =>
      refine ⟨?_, ?_, ?_, ?_⟩
      · intro x hx
        rcases List.mem_cons.1 hx with rfl | hx
        · exact fun hd => h.del v (List.mem_cons_self ..) hd
        · exact h.del x (List.mem_cons_of_mem _ hx)
      · intro i hi h0
        cases i with
        | zero => omega
        | succ i => exact h.pend (i + 1) hi h0
      · intro _; exact Int.le_refl 0
      · intro i j hij hj hne
        cases i with
        | zero => exact absurd rfl hne
        | succ i =>
          cases j with
          | zero => omega
          | succ j => exact h.desc (i + 1) (j + 1) hij hj hne
theorem made_ok (raw : List Ver) (p : Bool) : (made raw p).length ≤ 30 ∧ Ok (made raw p) ∧ ∀ v ∈ made raw p, 0 ≤ v.1 ∧ v.1 ≤ 200 := by
  obtain ⟨h1, h2, h3, h4, h5⟩ := madeK_ok raw (min raw.length 30) (by omega)
  refine ⟨by unfold made; rw [pend_len]; omega, pend_ok h4 p, ?_⟩
  intro v hv
  unfold made at hv
  have hlt : (madeK raw (min raw.length 30)).2 ≤ 151 := by omega
  generalize madeK raw (min raw.length 30) = s at hv h5 hlt
  obtain ⟨l, next⟩ := s
  dsimp only at hv h5 hlt
  cases p with
  | false =>
    cases l <;>
      (have := h5 v hv
       omega)
  | true =>
    cases l with
    | nil => cases hv
    | cons x l =>
      rcases List.mem_cons.1 hv with rfl | hv
      · exact ⟨Int.le_refl 0, by show (0 : Int) ≤ 200; omega⟩
      · have := h5 v (List.mem_cons_of_mem _ hv)
        omega
end Go.Proofs.Ythffgfgejggjaaa.Pl
