/-
  KeysSeparate: the law returns true on every input. (The walk.)
-/
import Derived.Test.YtlkpfdmkhakkiaaLeaf
namespace Go.Proofs.Ytlkpfdmkhakkiaa
open Go.RowKit
attribute [local go_sem] Pl.bl_eq Pl.le_dec Pl.gt_dec tl bs_ex0

set_option maxHeartbeats 400000 in
theorem separate_long (a b : ByteArray) (w : World) (ha : a.size ≤ maxLen) (hb : b.size ≤ maxLen) (h : ¬ (a.size ≤ 100 ∧ b.size ≤ 100)) :
    Calls Try.prog 3 #[.string a, .string b] w fun e w' => e = .returned (.bool true) ∧ w = w' := by
  unfold maxLen at ha hb
  by_cases h1 : a.size ≤ 100
  · have h2 : 100 < b.size := by omega
    clear h
    go_enter Try.func3, Try.ntmps3
    go_wp2_with (go_at_call 8; refine (awake_any _).mono ?_; rintro e w' ⟨rfl, rfl⟩)
    go_ret
    exact ⟨rfl, rfl⟩
  · clear h
    go_enter Try.func3, Try.ntmps3
    go_wp2_with (go_at_call 8; refine (awake_any _).mono ?_; rintro e w' ⟨rfl, rfl⟩)
    go_ret
    exact ⟨rfl, rfl⟩

set_option maxHeartbeats 400000 in
theorem separate_lt (a b : ByteArray) (w : World) (ha : a.size ≤ 100) (hb : b.size ≤ 100) (h : bs a < bs b) :
    Calls Try.prog 3 #[.string a, .string b] w fun e w' => e = .returned (.bool true) ∧ w = w' := by
  obtain ⟨m, h1, h2, h3, h4, h5, h6, h7⟩ := Pl.sep_of_lt h
  obtain ⟨s, hs⟩ : ∃ s : ByteArray, Pl.sep (bs a) (bs b) = bs s := ⟨⟨(Pl.sep (bs a) (bs b)).toArray⟩, rfl⟩
  rw [hs] at h3 h4 h5 h6
  have hsz : s.size = m := h4
  subst hsz
  have h2' : s.size ≤ b.size := h2
  have hne : ¬ bs b < bs a := Pl.lt_asy h
  have hne2 : (bs a == bs b) = false := Pl.lt_ne h
  have hx := h3.symm
  have hp : ¬ bs a < (bs b).take (s.size - 1) := h7
  have hc := Lib.hid hs
  clear hs h2 h3 h4 h7
  go_enter Try.func3, Try.ntmps3
  go_wp2_with fail
  refine (sepAt a b s _ (by omega) hc.out).mono ?_
  rintro e w' ⟨rfl, rfl⟩
  go_wp2_with fail
  refine (awake_any _).mono ?_
  rintro e w' ⟨rfl, rfl⟩
  go_wp2_with fail
  all_goals (go_ret; exact ⟨rfl, rfl⟩)

set_option maxHeartbeats 400000 in
theorem separate_gt (a b : ByteArray) (w : World) (ha : a.size ≤ 100) (hb : b.size ≤ 100) (h : bs b < bs a) :
    Calls Try.prog 3 #[.string a, .string b] w fun e w' => e = .returned (.bool true) ∧ w = w' := by
  obtain ⟨m, h1, h2, h3, h4, h5, h6, h7⟩ := Pl.sep_of_lt h
  obtain ⟨s, hs⟩ : ∃ s : ByteArray, Pl.sep (bs b) (bs a) = bs s := ⟨⟨(Pl.sep (bs b) (bs a)).toArray⟩, rfl⟩
  rw [hs] at h3 h4 h5 h6
  have hsz : s.size = m := h4
  subst hsz
  have h2' : s.size ≤ a.size := h2
  have hne : ¬ bs a < bs b := Pl.lt_asy h
  have hne2 : (bs a == bs b) = false := Pl.gt_ne h
  have hne3 : (bs b == bs a) = false := Pl.lt_ne h
  have hx := h3.symm
  have hp : ¬ bs b < (bs a).take (s.size - 1) := h7
  have hc := Lib.hid hs
  clear hs h2 h3 h4 h7
  go_enter Try.func3, Try.ntmps3
  go_wp2_with fail
  refine (sepAt b a s _ (by omega) hc.out).mono ?_
  rintro e w' ⟨rfl, rfl⟩
  go_wp2_with fail
  refine (awake_any _).mono ?_
  rintro e w' ⟨rfl, rfl⟩
  go_wp2_with fail
  all_goals (go_ret; exact ⟨rfl, rfl⟩)

set_option maxHeartbeats 400000 in
theorem separate_eq (a : ByteArray) (w : World) (ha : a.size ≤ 100) :
    Calls Try.prog 3 #[.string a, .string a] w fun e w' => e = .returned (.bool true) ∧ w = w' := by
  have hne : ¬ bs a < bs a := Pl.lt_irr _
  go_enter Try.func3, Try.ntmps3
  go_wp2_with fail
  refine (sepAt a a ⟨#[]⟩ _ (by omega) (Pl.sep_self _)).mono ?_
  rintro e w' ⟨rfl, rfl⟩
  go_wp2_with fail
  refine (awake_any _).mono ?_
  rintro e w' ⟨rfl, rfl⟩
  go_wp2_with fail
  all_goals (go_ret; exact ⟨rfl, rfl⟩)

theorem separate_any (a b : ByteArray) (w : World) (ha : a.size ≤ maxLen) (hb : b.size ≤ maxLen) :
    Calls Try.prog 3 #[.string a, .string b] w fun e w' => e = .returned (.bool true) ∧ w = w' := by
  by_cases h : a.size ≤ 100 ∧ b.size ≤ 100
  · by_cases h1 : bs a < bs b
    · exact separate_lt a b w h.1 h.2 h1
    · by_cases h2 : bs b < bs a
      · exact separate_gt a b w h.1 h.2 h2
      · obtain rfl : a = b := ba_ext (Pl.eq_of h1 h2)
        exact separate_eq a w h.1
  · exact separate_long a b w ha hb h

end Go.Proofs.Ytlkpfdmkhakkiaa
