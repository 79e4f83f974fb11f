/-
  KeysOrder: the law returns true on every input. (The walk.)
-/
import Derived.Test.YtlkpfdmkhakkiaaLeaf
namespace Go.Proofs.Ytlkpfdmkhakkiaa
open Go.RowKit
attribute [local go_sem] Pl.bl_eq Pl.le_dec Pl.gt_dec tl bs_ex0

set_option maxHeartbeats 800000 in
theorem order_long (a b c k : ByteArray) (l : Bool) (w : World) (ha : a.size ≤ maxLen) (hb : b.size ≤ maxLen) (hc : c.size ≤ maxLen) (hk : k.size ≤ maxLen)
    (h : ¬ (a.size ≤ 60 ∧ b.size ≤ 60 ∧ c.size ≤ 60 ∧ k.size ≤ 60)) :
    Calls Try.prog 6 #[.string a, .string b, .string c, .string k, .bool l] w fun e w' => e = .returned (.bool true) ∧ w = w' := by
  unfold maxLen at ha hb hc hk
  by_cases h1 : a.size ≤ 60
  · by_cases h2 : b.size ≤ 60
    · by_cases h3 : c.size ≤ 60
      · have h4 : 60 < k.size := by omega
        clear h
        go_enter Try.func6, Try.ntmps6
        go_wp2_with (go_at_call 8; refine (awake_any _).mono ?_; rintro e w' ⟨rfl, rfl⟩)
        go_ret
        exact ⟨rfl, rfl⟩
      · clear h
        go_enter Try.func6, Try.ntmps6
        go_wp2_with (go_at_call 8; refine (awake_any _).mono ?_; rintro e w' ⟨rfl, rfl⟩)
        go_ret
        exact ⟨rfl, rfl⟩
    · clear h
      go_enter Try.func6, Try.ntmps6
      go_wp2_with (go_at_call 8; refine (awake_any _).mono ?_; rintro e w' ⟨rfl, rfl⟩)
      go_ret
      exact ⟨rfl, rfl⟩
  · clear h
    go_enter Try.func6, Try.ntmps6
    go_wp2_with (go_at_call 8; refine (awake_any _).mono ?_; rintro e w' ⟨rfl, rfl⟩)
    go_ret
    exact ⟨rfl, rfl⟩

theorem cmpAt (a b : ByteArray) (x : Int) (w : World) (h : Pl.cmp (bs a) (bs b) = x) : Calls Try.prog 12 #[.string a, .string b] w fun e w' => e = .returned (.int .i64 x) ∧ w = w' := by
  subst h; exact compare_any a b w
theorem withinAt (k a b : ByteArray) (l x : Bool) (w : World) (h : within k a b l = x) : Calls Try.prog 13 #[.string k, .string a, .string b, .bool l] w fun e w' => e = .returned (.bool x) ∧ w = w' := by
  subst h; exact within_any k a b l w

set_option maxHeartbeats 800000 in
/-- Up to the second test: x, y, z are the three comparisons. -/
theorem order_early (a b c k : ByteArray) (l : Bool) (x y z : Int) (w : World) (ha : a.size ≤ 60) (hb : b.size ≤ 60) (hc : c.size ≤ 60) (hk : k.size ≤ 60)
    (hx : Hid (Pl.cmp (bs a) (bs b) = x)) (hy : Hid (Pl.cmp (bs b) (bs c) = y)) (hz : Hid (Pl.cmp (bs a) (bs c) = z)) (hn : Hid (Pl.cmp (bs b) (bs a) = -x)) (he : (bs a == bs b) = (x == 0))
    (b1 : -1 ≤ x) (b2 : x ≤ 1) (hcase : 0 < x ∨ (x ≤ 0 ∧ 0 < y ∧ l = false)) :
    Calls Try.prog 6 #[.string a, .string b, .string c, .string k, .bool l] w fun e w' => e = .returned (.bool true) ∧ w = w' := by
  rcases hcase with h | ⟨h, h', rfl⟩
  all_goals
    go_enter Try.func6, Try.ntmps6
    go_wp2_with fail
    refine (cmpAt a b x _ hx.out).mono ?_
    rintro e w' ⟨rfl, rfl⟩
    go_wp2_with fail
    refine (cmpAt b c y _ hy.out).mono ?_
    rintro e w' ⟨rfl, rfl⟩
    go_wp2_with fail
    refine (cmpAt a c z _ hz.out).mono ?_
    rintro e w' ⟨rfl, rfl⟩
    go_wp2_with fail
    refine (cmpAt b a (-x) _ hn.out).mono ?_
    rintro e w' ⟨rfl, rfl⟩
    go_wp2_with fail
    refine (awake_any _).mono ?_
    rintro e w' ⟨rfl, rfl⟩
    go_wp2_with fail
    go_ret
    exact ⟨rfl, rfl⟩

set_option maxHeartbeats 1600000 in
/-- To the end: p, q, r: the ranges' answers. -/
theorem order_late (a b c k : ByteArray) (l p q : Bool) (x y z : Int) (w : World) (ha : a.size ≤ 60) (hb : b.size ≤ 60) (hc : c.size ≤ 60) (hk : k.size ≤ 60)
    (hx : Hid (Pl.cmp (bs a) (bs b) = x)) (hy : Hid (Pl.cmp (bs b) (bs c) = y)) (hz : Hid (Pl.cmp (bs a) (bs c) = z)) (hn : Hid (Pl.cmp (bs b) (bs a) = -x)) (he : (bs a == bs b) = (x == 0))
    (b1 : -1 ≤ x) (b2 : x ≤ 1) (h0 : x ≤ 0) (hcase : (0 < y ∧ l = true) ∨ (y ≤ 0 ∧ z ≤ 0))
    (hp : Hid (within k a b false = p)) (hq : Hid (within k b c l = q)) (hr : Hid (within k a c l = (p || q))) (hpq : (p && q) = false) :
    Calls Try.prog 6 #[.string a, .string b, .string c, .string k, .bool l] w fun e w' => e = .returned (.bool true) ∧ w = w' := by
  rcases hcase with ⟨h, rfl⟩ | ⟨h, h'⟩
  · cases p <;> cases q <;> try cases hpq
    all_goals
      simp only [Bool.or_true, Bool.or_false] at hr
      go_enter Try.func6, Try.ntmps6
      go_wp2_with fail
      refine (cmpAt a b x _ hx.out).mono ?_
      rintro e w' ⟨rfl, rfl⟩
      go_wp2_with fail
      refine (cmpAt b c y _ hy.out).mono ?_
      rintro e w' ⟨rfl, rfl⟩
      go_wp2_with fail
      refine (cmpAt a c z _ hz.out).mono ?_
      rintro e w' ⟨rfl, rfl⟩
      go_wp2_with fail
      refine (cmpAt b a (-x) _ hn.out).mono ?_
      rintro e w' ⟨rfl, rfl⟩
      go_wp2_with fail
      refine (withinAt k a b false _ _ hp.out).mono ?_
      rintro e w' ⟨rfl, rfl⟩
      go_wp2_with fail
      refine (withinAt k b c _ _ _ hq.out).mono ?_
      rintro e w' ⟨rfl, rfl⟩
      go_wp2_with fail
      refine (awake_any _).mono ?_
      rintro e w' ⟨rfl, rfl⟩
      go_wp2_with fail
      refine (withinAt k a c _ _ _ hr.out).mono ?_
      rintro e w' ⟨rfl, rfl⟩
      go_wp2_with fail
      go_ret
      exact ⟨rfl, rfl⟩
  · cases p <;> cases q <;> try cases hpq
    all_goals
      simp only [Bool.or_true, Bool.or_false] at hr
      cases l
      all_goals
        go_enter Try.func6, Try.ntmps6
        go_wp2_with fail
        refine (cmpAt a b x _ hx.out).mono ?_
        rintro e w' ⟨rfl, rfl⟩
        go_wp2_with fail
        refine (cmpAt b c y _ hy.out).mono ?_
        rintro e w' ⟨rfl, rfl⟩
        go_wp2_with fail
        refine (cmpAt a c z _ hz.out).mono ?_
        rintro e w' ⟨rfl, rfl⟩
        go_wp2_with fail
        refine (cmpAt b a (-x) _ hn.out).mono ?_
        rintro e w' ⟨rfl, rfl⟩
        go_wp2_with fail
        refine (withinAt k a b false _ _ hp.out).mono ?_
        rintro e w' ⟨rfl, rfl⟩
        go_wp2_with fail
        refine (withinAt k b c _ _ _ hq.out).mono ?_
        rintro e w' ⟨rfl, rfl⟩
        go_wp2_with fail
        refine (awake_any _).mono ?_
        rintro e w' ⟨rfl, rfl⟩
        go_wp2_with fail
        refine (withinAt k a c _ _ _ hr.out).mono ?_
        rintro e w' ⟨rfl, rfl⟩
        go_wp2_with fail
        go_ret
        exact ⟨rfl, rfl⟩

theorem order_any (a b c k : ByteArray) (l : Bool) (w : World) (ha : a.size ≤ maxLen) (hb : b.size ≤ maxLen) (hc : c.size ≤ maxLen) (hk : k.size ≤ maxLen) :
    Calls Try.prog 6 #[.string a, .string b, .string c, .string k, .bool l] w fun e w' => e = .returned (.bool true) ∧ w = w' := by
  by_cases h : a.size ≤ 60 ∧ b.size ≤ 60 ∧ c.size ≤ 60 ∧ k.size ≤ 60
  · obtain ⟨g1, g2, g3, g4⟩ := h
    have hn := Pl.cmp_neg (bs a) (bs b)
    have he := Pl.cmp_beq (bs a) (bs b)
    have bd := Pl.cmp_bd (bs a) (bs b)
    by_cases h1 : 0 < Pl.cmp (bs a) (bs b)
    · exact order_early a b c k l _ _ _ w g1 g2 g3 g4 rfl rfl rfl hn he bd.1 bd.2 (.inl h1)
    · have n1 := Pl.cmp_le.1 (Int.not_lt.1 h1)
      by_cases h2 : 0 < Pl.cmp (bs b) (bs c) ∧ l = false
      · exact order_early a b c k l _ _ _ w g1 g2 g3 g4 rfl rfl rfl hn he bd.1 bd.2 (.inr ⟨Int.not_lt.1 h1, h2.1, h2.2⟩)
      · have hcase : (0 < Pl.cmp (bs b) (bs c) ∧ l = true) ∨ (Pl.cmp (bs b) (bs c) ≤ 0 ∧ Pl.cmp (bs a) (bs c) ≤ 0) := by
          by_cases h3 : 0 < Pl.cmp (bs b) (bs c)
          · refine .inl ⟨h3, ?_⟩
            cases l
            · exact absurd ⟨h3, rfl⟩ h2
            · rfl
          · exact .inr ⟨Int.not_lt.1 h3, Pl.cmp_le.2 (Pl.nlt_tr n1 (Pl.cmp_le.1 (Int.not_lt.1 h3)))⟩
        have n2 : l = false → ¬ bs c < bs b := fun e => by
          rcases hcase with ⟨_, h⟩ | ⟨h, _⟩
          · rw [e] at h; cases h
          · exact Pl.cmp_le.1 h
        obtain ⟨e1, e2⟩ := Pl.within_split (k := bs k) n1 n2
        exact order_late a b c k l (within k a b false) (within k b c l) _ _ _ w g1 g2 g3 g4 rfl rfl rfl hn he bd.1 bd.2 (Int.not_lt.1 h1) hcase rfl rfl e1 e2
  · exact order_long a b c k l w ha hb hc hk h

end Go.Proofs.Ytlkpfdmkhakkiaa
