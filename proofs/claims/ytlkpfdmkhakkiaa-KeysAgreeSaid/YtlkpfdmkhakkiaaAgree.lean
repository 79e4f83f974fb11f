/-
  KeysAgree: the law returns true on every input. (The walk.)
-/
import Derived.Test.YtlkpfdmkhakkiaaLeaf
namespace Go.Proofs.Ytlkpfdmkhakkiaa
open Go.RowKit
attribute [local go_sem] Pl.bl_eq Pl.le_dec Pl.gt_dec tl bs_ex0

set_option maxHeartbeats 800000 in
theorem agree_long (a b c : ByteArray) (l : Bool) (w : World) (ha : a.size ≤ maxLen) (hb : b.size ≤ maxLen) (hc : c.size ≤ maxLen)
    (h : ¬ (a.size ≤ 200 ∧ b.size ≤ 200 ∧ c.size ≤ 200)) :
    Calls Try.prog 7 #[.string a, .string b, .string c, .bool l] w fun e w' => e = .returned (.bool true) ∧ w = w' := by
  unfold maxLen at ha hb hc
  by_cases h1 : a.size ≤ 200
  · by_cases h2 : b.size ≤ 200
    · have h3 : 200 < c.size := by omega
      clear h
      go_enter Try.func7, Try.ntmps7
      go_wp2_with (go_at_call 8; refine (awake_any _).mono ?_; rintro e w' ⟨rfl, rfl⟩)
      go_ret
      exact ⟨rfl, rfl⟩
    · clear h
      go_enter Try.func7, Try.ntmps7
      go_wp2_with (go_at_call 8; refine (awake_any _).mono ?_; rintro e w' ⟨rfl, rfl⟩)
      go_ret
      exact ⟨rfl, rfl⟩
  · clear h
    go_enter Try.func7, Try.ntmps7
    go_wp2_with (go_at_call 8; refine (awake_any _).mono ?_; rintro e w' ⟨rfl, rfl⟩)
    go_ret
    exact ⟨rfl, rfl⟩

theorem cmpOf (a b : ByteArray) (x : Int) (w : World) (h : Pl.cmp (bs a) (bs b) = x) : Calls Try.prog 12 #[.string a, .string b] w fun e w' => e = .returned (.int .i64 x) ∧ w = w' := by
  subst h; exact compare_any a b w
theorem succOf (a s : ByteArray) (w : World) (ha : a.size ≤ 1000) (h : s = a ++ ⟨#[0]⟩) : Calls Try.prog 11 #[.string a] w fun e w' => e = .returned (.string s) ∧ w = w' := by
  subst h; exact successor_any a w ha
theorem vkOf (a : ByteArray) (x : Bool) (w : World) (h : decide ((a.size : Int) ≤ 32) = x) : Calls Try.prog 14 #[.string a] w fun e w' => e = .returned (.bool x) ∧ w = w' := by
  subst h; exact validKey_any a w
theorem rvkOf (a : ByteArray) (x : Bool) (w : World) (h : decide ((a.size : Int) ≤ 32) = x) : Calls Try.prog 15 #[.string a] w fun e w' => e = .returned (.bool x) ∧ w = w' := by
  subst h; exact refValidKey_any a w
theorem vvOf (a : ByteArray) (x : Bool) (w : World) (h : decide ((a.size : Int) ≤ 64) = x) : Calls Try.prog 16 #[.string a] w fun e w' => e = .returned (.bool x) ∧ w = w' := by
  subst h; exact validValue_any a w
theorem rvvOf (a : ByteArray) (x : Bool) (w : World) (h : decide ((a.size : Int) ≤ 64) = x) : Calls Try.prog 17 #[.string a] w fun e w' => e = .returned (.bool x) ∧ w = w' := by
  subst h; exact refValidValue_any a w
theorem wiOf (k a b : ByteArray) (l x : Bool) (w : World) (h : within k a b l = x) : Calls Try.prog 13 #[.string k, .string a, .string b, .bool l] w fun e w' => e = .returned (.bool x) ∧ w = w' := by
  subst h; exact within_any k a b l w
theorem rwiOf (k a b : ByteArray) (l x : Bool) (w : World) (h : within k a b l = x) : Calls Try.prog 19 #[.string k, .string a, .string b, .bool l] w fun e w' => e = .returned (.bool x) ∧ w = w' := by
  subst h; exact refWithin_any k a b l w
theorem seOf (a b s : ByteArray) (w : World) (hb : b.size ≤ 1000) (h : Pl.sep (bs a) (bs b) = bs s) : Calls Try.prog 9 #[.string a, .string b] w fun e w' => e = .returned (.string s) ∧ w = w' := sepAt a b s w hb h
theorem rseOf (a b s : ByteArray) (w : World) (hb : b.size ≤ 1000) (h : Pl.sep (bs a) (bs b) = bs s) : Calls Try.prog 18 #[.string a, .string b] w fun e w' => e = .returned (.string s) ∧ w = w' :=
  (refSeparator_any a b w hb).mono fun _ _ ⟨he, hw⟩ => ⟨by rw [he, h, mk_bs], hw⟩

set_option maxHeartbeats 1600000 in
theorem agree_short (a b c s : ByteArray) (l p q r : Bool) (w : World) (ha : a.size ≤ 200) (hb : b.size ≤ 200) (hc : c.size ≤ 200)
    (hs : Hid (Pl.sep (bs a) (bs b) = bs s)) (hp : Hid (decide ((a.size : Int) ≤ 32) = p)) (hq : Hid (decide ((b.size : Int) ≤ 64) = q)) (hr : Hid (within a b c l = r))
    (hc : (bs a < bs b ∧ Pl.cmp (bs a) (bs b) = -1) ∨ (bs b < bs a ∧ ¬ bs a < bs b ∧ (bs a == bs b) = false ∧ Pl.cmp (bs a) (bs b) = 1) ∨ (¬ bs a < bs b ∧ ¬ bs b < bs a ∧ (bs a == bs b) = true ∧ Pl.cmp (bs a) (bs b) = 0)) :
    Calls Try.prog 7 #[.string a, .string b, .string c, .bool l] w fun e w' => e = .returned (.bool true) ∧ w = w' := by
  rcases hc with ⟨h1, hx⟩ | ⟨h1, h2, h3, hx⟩ | ⟨h1, h2, h3, hx⟩
  all_goals
    have hx := Lib.hid hx
    go_enter Try.func7, Try.ntmps7
    go_wp2_with fail
    refine (awake_any _).mono ?_
    rintro e w' ⟨rfl, rfl⟩
    go_wp2_with fail
    refine (vkOf a p _ hp.out).mono ?_
    rintro e w' ⟨rfl, rfl⟩
    go_wp2_with fail
    refine (rvkOf a p _ hp.out).mono ?_
    rintro e w' ⟨rfl, rfl⟩
    go_wp2_with fail
    refine (vvOf b q _ hq.out).mono ?_
    rintro e w' ⟨rfl, rfl⟩
    go_wp2_with fail
    refine (rvvOf b q _ hq.out).mono ?_
    rintro e w' ⟨rfl, rfl⟩
    go_wp2_with fail
    refine (cmpOf a b _ _ hx.out).mono ?_
    rintro e w' ⟨rfl, rfl⟩
    go_wp2_with fail
    refine (succOf a _ _ (by omega) rfl).mono ?_
    rintro e w' ⟨rfl, rfl⟩
    go_wp2_with fail
    refine (seOf a b s _ (by omega) hs.out).mono ?_
    rintro e w' ⟨rfl, rfl⟩
    go_wp2_with fail
    refine (rseOf a b s _ (by omega) hs.out).mono ?_
    rintro e w' ⟨rfl, rfl⟩
    go_wp2_with fail
    refine (wiOf a b c l r _ hr.out).mono ?_
    rintro e w' ⟨rfl, rfl⟩
    go_wp2_with fail
    refine (rwiOf a b c l r _ hr.out).mono ?_
    rintro e w' ⟨rfl, rfl⟩
    go_wp2_with fail
    go_ret
    exact ⟨rfl, rfl⟩

theorem agree_any (a b c : ByteArray) (l : Bool) (w : World) (ha : a.size ≤ maxLen) (hb : b.size ≤ maxLen) (hc : c.size ≤ maxLen) :
    Calls Try.prog 7 #[.string a, .string b, .string c, .bool l] w fun e w' => e = .returned (.bool true) ∧ w = w' := by
  by_cases h : a.size ≤ 200 ∧ b.size ≤ 200 ∧ c.size ≤ 200
  · refine agree_short a b c ⟨(Pl.sep (bs a) (bs b)).toArray⟩ l _ _ _ w h.1 h.2.1 h.2.2 rfl rfl rfl rfl ?_
    by_cases h1 : bs a < bs b
    · exact .inl ⟨h1, Pl.cmp_lt h1⟩
    · by_cases h2 : bs b < bs a
      · exact .inr (.inl ⟨h2, h1, Pl.gt_ne h2, Pl.cmp_gt h2⟩)
      · have e := Pl.eq_of h1 h2
        exact .inr (.inr ⟨h1, h2, by rw [e]; exact beq_self_eq_true _, by rw [e]; exact Pl.cmp_eq _⟩)
  · exact agree_long a b c l w ha hb hc h

end Go.Proofs.Ytlkpfdmkhakkiaa
