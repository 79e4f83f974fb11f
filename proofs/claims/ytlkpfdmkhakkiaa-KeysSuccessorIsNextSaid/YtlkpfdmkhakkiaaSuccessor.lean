/-
  KeysSuccessorIsNext: the law returns true on every input. (The walk.)
-/
import Derived.Test.YtlkpfdmkhakkiaaLeaf
namespace Go.Proofs.Ytlkpfdmkhakkiaa
open Go.RowKit
attribute [local go_sem] Pl.bl_eq Pl.le_dec Pl.gt_dec tl bs_ex0

set_option maxHeartbeats 400000 in
theorem next_long (a b : ByteArray) (w : World) (ha : a.size ≤ maxLen) (hb : b.size ≤ maxLen) (h : ¬ (a.size ≤ 100 ∧ b.size ≤ 100)) :
    Calls Try.prog 5 #[.string a, .string b] w fun e w' => e = .returned (.bool true) ∧ w = w' := by
  unfold maxLen at ha hb
  by_cases h1 : a.size ≤ 100
  · have h2 : 100 < b.size := by omega
    clear h
    go_enter Try.func5, Try.ntmps5
    go_wp2_with (go_at_call 8; refine (awake_any _).mono ?_; rintro e w' ⟨rfl, rfl⟩)
    go_ret
    exact ⟨rfl, rfl⟩
  · clear h
    go_enter Try.func5, Try.ntmps5
    go_wp2_with (go_at_call 8; refine (awake_any _).mono ?_; rintro e w' ⟨rfl, rfl⟩)
    go_ret
    exact ⟨rfl, rfl⟩

theorem bs_app (a b : ByteArray) : bs (a ++ b) = bs a ++ bs b := by
  cases a; cases b; simp [bs]
theorem succAt (a s : ByteArray) (w : World) (ha : a.size ≤ 1000) (h : s = a ++ ⟨#[0]⟩) : Calls Try.prog 11 #[.string a] w fun e w' => e = .returned (.string s) ∧ w = w' := by
  subst h; exact successor_any a w ha

set_option maxHeartbeats 400000 in
theorem next_short (a b s : ByteArray) (w : World) (ha : a.size ≤ 100) (hb : b.size ≤ 100) (hs : Hid (s = a ++ ⟨#[0]⟩)) (h1 : Pl.cmp (bs a) (bs s) = -1)
    (h2 : ¬ bs a < bs b ∨ (bs a < bs b ∧ (Pl.cmp (bs s) (bs b) = -1 ∨ Pl.cmp (bs s) (bs b) = 0))) :
    Calls Try.prog 5 #[.string a, .string b] w fun e w' => e = .returned (.bool true) ∧ w = w' := by
  rcases h2 with h2 | ⟨h2, h3 | h3⟩
  · go_enter Try.func5, Try.ntmps5
    go_wp2_with fail
    refine (succAt a s _ (by omega) hs.out).mono ?_
    rintro e w' ⟨rfl, rfl⟩
    go_wp2_with fail
    refine (awake_any _).mono ?_
    rintro e w' ⟨rfl, rfl⟩
    go_wp2_with fail
    refine (compare_any a s _).mono ?_
    rintro e w' ⟨rfl, rfl⟩
    go_wp2_with fail
    go_ret
    exact ⟨rfl, rfl⟩
  all_goals
    go_enter Try.func5, Try.ntmps5
    go_wp2_with fail
    refine (succAt a s _ (by omega) hs.out).mono ?_
    rintro e w' ⟨rfl, rfl⟩
    go_wp2_with fail
    refine (awake_any _).mono ?_
    rintro e w' ⟨rfl, rfl⟩
    go_wp2_with fail
    refine (compare_any a s _).mono ?_
    rintro e w' ⟨rfl, rfl⟩
    go_wp2_with fail
    refine (compare_any s b _).mono ?_
    rintro e w' ⟨rfl, rfl⟩
    go_wp2_with fail
    go_ret
    exact ⟨rfl, rfl⟩

theorem next_any (a b : ByteArray) (w : World) (ha : a.size ≤ maxLen) (hb : b.size ≤ maxLen) :
    Calls Try.prog 5 #[.string a, .string b] w fun e w' => e = .returned (.bool true) ∧ w = w' := by
  by_cases h : a.size ≤ 100 ∧ b.size ≤ 100
  · have e : bs (a ++ (⟨#[0]⟩ : ByteArray)) = bs a ++ [0] := bs_app _ _
    refine next_short a b (a ++ (⟨#[0]⟩ : ByteArray)) w h.1 h.2 (show Hid _ from (rfl : a ++ (⟨#[0]⟩ : ByteArray) = a ++ ⟨#[0]⟩)) (by rw [e]; exact Pl.cmp_lt (Pl.lt_snoc _ _)) ?_
    by_cases g : bs a < bs b
    · refine .inr ⟨g, ?_⟩
      have k := Pl.succ_least _ _ g
      rw [← e] at k
      by_cases l : bs (a ++ (⟨#[0]⟩ : ByteArray)) < bs b
      · exact .inl (Pl.cmp_lt l)
      · rw [Pl.eq_of l k]; exact .inr (Pl.cmp_eq _)
    · exact .inl g
  · exact next_long a b w ha hb h

end Go.Proofs.Ytlkpfdmkhakkiaa
