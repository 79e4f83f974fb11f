/-
  The contracts of the functions of package keys and of the reference of layer 1, over every input.
-/
import Derived.Test.YtlkpfdmkhakkiaaRows
import Derived.Test.YtlkpfdmkhakkiaaPlain
import Derived.WalkKit
import Derived.WalkSpells
import Derived.WalkLawsBesides
import Derived.Lib.Strings
import Derived.Lib.Hide
namespace Go.Proofs.Ytlkpfdmkhakkiaa
open Go.RowKit

/-- A string's bytes, behind a name that simp leaves alone. -/
def bs (s : ByteArray) : List UInt8 := s.data.toList
theorem tl (s : ByteArray) : s.toList = bs s := Lib.toList_data s
theorem ba_ext {a b : ByteArray} (h : bs a = bs b) : a = b := by
  cases a; cases b
  simpa [bs] using h
theorem bs_mk (l : List UInt8) : bs ⟨l.toArray⟩ = l := rfl
theorem mk_bs (s : ByteArray) : (⟨(bs s).toArray⟩ : ByteArray) = s := ba_ext rfl
theorem bs_len (a : ByteArray) : (bs a).length = a.size := rfl
theorem ex0 (b : ByteArray) (n : Nat) : b.extract 0 n = ⟨((bs b).take n).toArray⟩ := by
  rw [Lib.extract_eq]; simp [bs]
theorem bs_ex0 (b : ByteArray) (n : Nat) : bs (b.extract 0 n) = (bs b).take n := by rw [ex0]; rfl
theorem bs_beq (a b : ByteArray) : (bs a == bs b) = decide (a = b) := by
  by_cases h : a = b
  · subst h; simp
  · rw [decide_eq_false h, beq_eq_false_iff_ne]
    exact fun e => h (ba_ext e)
theorem Pl.lt_ne {x y : List UInt8} (h : x < y) : (x == y) = false := by
  rw [beq_eq_false_iff_ne]; rintro rfl; exact Pl.lt_irr _ h
theorem Pl.gt_ne {x y : List UInt8} (h : y < x) : (x == y) = false := by
  rw [beq_eq_false_iff_ne]; rintro rfl; exact Pl.lt_irr _ h
attribute [local go_sem] Pl.bl_eq Pl.le_dec Pl.gt_dec tl bs_ex0

set_option maxHeartbeats 400000 in
theorem compare_any (a b : ByteArray) (w : World) :
    Calls Try.prog 12 #[.string a, .string b] w fun e w' => e = .returned (.int .i64 (Pl.cmp (bs a) (bs b))) ∧ w = w' := by
  by_cases h1 : (bs a) < (bs b)
  · rw [Pl.cmp_lt h1]
    go_enter Try.func12, Try.ntmps12
    go_wp2
    go_ret
    exact ⟨rfl, rfl⟩
  · by_cases h2 : (bs b) < (bs a)
    · have h3 := Pl.gt_ne h2
      rw [Pl.cmp_gt h2]
      go_enter Try.func12, Try.ntmps12
      go_wp2
      go_ret
      exact ⟨rfl, rfl⟩
    · obtain rfl : a = b := ba_ext (Pl.eq_of h1 h2)
      rw [Pl.cmp_eq]
      go_enter Try.func12, Try.ntmps12
      go_wp2
      go_ret
      exact ⟨rfl, rfl⟩

def within (key low high : ByteArray) (last : Bool) : Bool := Pl.within (bs key) (bs low) (bs high) last

set_option maxHeartbeats 400000 in
theorem within_any (key low high : ByteArray) (last : Bool) (w : World) :
    Calls Try.prog 13 #[.string key, .string low, .string high, .bool last] w fun e w' => e = .returned (.bool (within key low high last)) ∧ w = w' := by
  by_cases h1 : (bs key) < (bs low) <;> cases last <;>
    (go_enter Try.func13, Try.ntmps13
     go_wp2
     go_ret
     exact ⟨by simp [within, Pl.within, h1], rfl⟩)

set_option maxHeartbeats 400000 in
theorem refWithin_any (key low high : ByteArray) (last : Bool) (w : World) :
    Calls Try.prog 19 #[.string key, .string low, .string high, .bool last] w fun e w' => e = .returned (.bool (within key low high last)) ∧ w = w' := by
  by_cases h1 : (bs key) < (bs low) <;> cases last <;>
    (go_enter Try.func19, Try.ntmps19
     go_wp2
     go_ret
     exact ⟨by simp [within, Pl.within, h1], rfl⟩)

theorem successor_any (a : ByteArray) (w : World) (ha : a.size ≤ 1000) :
    Calls Try.prog 11 #[.string a] w fun e w' => e = .returned (.string (a ++ ⟨#[0]⟩)) ∧ w = w' := by
  go_enter Try.func11, Try.ntmps11
  go_wp2
  go_ret
  exact ⟨rfl, rfl⟩

theorem validKey_any (a : ByteArray) (w : World) :
    Calls Try.prog 14 #[.string a] w fun e w' => e = .returned (.bool (decide ((a.size : Int) ≤ 32))) ∧ w = w' := by
  go_enter Try.func14, Try.ntmps14
  go_wp2
  go_ret
  exact ⟨rfl, rfl⟩
theorem refValidKey_any (a : ByteArray) (w : World) :
    Calls Try.prog 15 #[.string a] w fun e w' => e = .returned (.bool (decide ((a.size : Int) ≤ 32))) ∧ w = w' := by
  go_enter Try.func15, Try.ntmps15
  go_wp2
  go_ret
  exact ⟨rfl, rfl⟩
theorem validValue_any (a : ByteArray) (w : World) :
    Calls Try.prog 16 #[.string a] w fun e w' => e = .returned (.bool (decide ((a.size : Int) ≤ 64))) ∧ w = w' := by
  go_enter Try.func16, Try.ntmps16
  go_wp2
  go_ret
  exact ⟨rfl, rfl⟩
theorem refValidValue_any (a : ByteArray) (w : World) :
    Calls Try.prog 17 #[.string a] w fun e w' => e = .returned (.bool (decide ((a.size : Int) ≤ 64))) ∧ w = w' := by
  go_enter Try.func17, Try.ntmps17
  go_wp2
  go_ret
  exact ⟨rfl, rfl⟩

set_option maxHeartbeats 400000 in
theorem separator_any (a b : ByteArray) (w : World) (hb : b.size ≤ 1000) :
    Calls Try.prog 9 #[.string a, .string b] w fun e w' => e = .returned (.string ⟨(Pl.sep (bs a) (bs b)).toArray⟩) ∧ w = w' := by
  go_enter Try.func9, Try.ntmps9
  go_wp2
  go_loop [5] (fun n => ∃ k : Nat, k ≤ b.size ∧ n = .int .i64 ((k : Int) + 1) ∧ Hid (Pl.sep (bs a) (bs b) = Pl.sepFrom (bs a) (bs b) (b.size - k) (k + 1))) (fun n => b.size + 1 - (intOf n).toNat)
  case atStart => exact ⟨0, Nat.zero_le _, rfl, rfl⟩
  case round =>
    obtain ⟨k, hk, rfl, H⟩ := hrel
    by_cases hlt : k < b.size
    · go_wp2
      · have h : (bs a) < (bs b).take (k + 1) := by assumption
        go_ret
        refine ⟨?_, rfl⟩
        rw [H.out, show b.size - k = (b.size - k - 1) + 1 from by omega, Pl.sepFrom_hit h]
        show Ending.returned (Value.string (b.extract 0 (k + 1))) = _
        rw [ex0]
      · have h : ¬ (bs a) < (bs b).take (k + 1) := by assumption
        refine ⟨⟨k + 1, by omega, by go_num, ?_⟩, by simp [intOf]; omega⟩
        show Pl.sep (bs a) (bs b) = Pl.sepFrom (bs a) (bs b) (b.size - (k + 1)) (k + 1 + 1)
        rw [H.out, show b.size - k = (b.size - (k + 1)) + 1 from by omega, Pl.sepFrom_miss h]
    · go_wp2
      go_ret
      refine ⟨?_, rfl⟩
      rw [H.out, show b.size - k = 0 from by omega]
      rfl

set_option maxHeartbeats 400000 in
theorem refSeparator0 (a b : ByteArray) (w : World) (hb : b.size ≤ 1000) :
    Calls Try.prog 18 #[.string a, .string b] w fun e w' => e = .returned (.string ⟨(Pl.sepFrom (bs a) (bs b) (b.size + 1) 0).toArray⟩) ∧ w = w' := by
  go_enter Try.func18, Try.ntmps18
  go_wp2
  go_loop [5] (fun n => ∃ k : Nat, k ≤ b.size + 1 ∧ n = .int .i64 (k : Int) ∧ Hid (Pl.sepFrom (bs a) (bs b) (b.size + 1) 0 = Pl.sepFrom (bs a) (bs b) (b.size + 1 - k) k)) (fun n => b.size + 1 - (intOf n).toNat)
  case atStart => exact ⟨0, Nat.zero_le _, rfl, rfl⟩
  case round =>
    obtain ⟨k, hk, rfl, H⟩ := hrel
    by_cases hlt : k ≤ b.size
    · go_wp2
      · have h : (bs a) < (bs b).take k := by assumption
        go_ret
        refine ⟨?_, rfl⟩
        rw [H.out, show b.size + 1 - k = (b.size - k) + 1 from by omega, Pl.sepFrom_hit h]
        show Ending.returned (Value.string (b.extract 0 k)) = _
        rw [ex0]
      · have h : ¬ (bs a) < (bs b).take k := by assumption
        refine ⟨⟨k + 1, by omega, by go_num, ?_⟩, by simp [intOf]; omega⟩
        show _ = Pl.sepFrom (bs a) (bs b) (b.size + 1 - (k + 1)) (k + 1)
        rw [H.out, show b.size + 1 - k = (b.size + 1 - (k + 1)) + 1 from by omega, Pl.sepFrom_miss h]
    · go_wp2
      go_ret
      refine ⟨?_, rfl⟩
      rw [H.out, show b.size + 1 - k = 0 from by omega]
      rfl

theorem refSeparator_any (a b : ByteArray) (w : World) (hb : b.size ≤ 1000) :
    Calls Try.prog 18 #[.string a, .string b] w fun e w' => e = .returned (.string ⟨(Pl.sep (bs a) (bs b)).toArray⟩) ∧ w = w' := by
  have h : Pl.sepFrom (bs a) (bs b) (b.size + 1) 0 = Pl.sep (bs a) (bs b) := Pl.sepFrom_zero _ _
  rw [← h]
  exact refSeparator0 a b w hb

theorem sepAt (a b s : ByteArray) (w : World) (hb : b.size ≤ 1000) (h : Pl.sep (bs a) (bs b) = (bs s)) : Calls Try.prog 9 #[.string a, .string b] w fun e w' => e = .returned (.string s) ∧ w = w' :=
  (separator_any a b w hb).mono fun _ _ ⟨he, hw⟩ => ⟨by rw [he, h, mk_bs], hw⟩

set_option maxHeartbeats 400000 in
theorem awake_any (w : World) : Calls Try.prog 8 #[] w fun e w' => e = .returned (.bool true) ∧ w = w' := by
  go_enter Try.func8, Try.ntmps8
  go_wp2_with fail
  refine (sepAt _ _ ⟨#[98]⟩ _ (by decide) (by decide +kernel)).mono ?_
  rintro e w' ⟨rfl, rfl⟩
  go_wp2_with fail
  refine (sepAt _ _ ⟨#[99, 97, 114, 112]⟩ _ (by decide) (by decide +kernel)).mono ?_
  rintro e w' ⟨rfl, rfl⟩
  go_wp2_with fail
  refine (compare_any _ _ _).mono ?_
  rintro e w' ⟨rfl, rfl⟩
  rw [Pl.cmp_lt (by decide)]
  go_wp2_with fail
  refine (validKey_any _ _).mono ?_
  rintro e w' ⟨rfl, rfl⟩
  go_wp2_with fail
  go_ret
  exact ⟨rfl, rfl⟩

end Go.Proofs.Ytlkpfdmkhakkiaa
