/-
  The contracts of the reference's Child and Below; blinktreekit.Mod.
-/
import Derived.Test.YtabmokekibgjeaaLook
namespace Go.Proofs.Ytabmokekibgjeaa
open Go.RowKit
attribute [local go_sem] Pl.bl_eq Pl.le_dec Pl.gt_dec tl bs_ex0

set_option maxHeartbeats 1000000 in
theorem refChildAt (lv : Int) (A : Option Addr) (n c : Nat) (l : List Pl.Slot) (hi : ByteArray) (la : Bool) (ri : Int) (key : ByteArray) (x : Pl.Slot) (b : Bool) (w : World) (hn : l.length = n) (hr : Rd w 2 A n (l.flatMap fS)) (hb : n ≤ 1000) (ha : Pl.Asc l) (hx : Pl.child (bs key) l = (x, b)) :
    Calls Try.prog 18 #[.agg #[.int .i64 lv, .slice A n c, .string hi, .bool la, .int .u64 ri], .string key] w fun e w' => e = .returned (.tuple #[.agg #[.string x.1, .int .u64 x.2], .bool b]) ∧ Below w.heap.size w w' := by
  obtain ⟨m, hm⟩ : ∃ m, Pl.cnt (bs key) l = m := ⟨_, rfl⟩
  obtain ⟨y, hy⟩ : ∃ y, Pl.has (bs key) l = y := ⟨_, rfl⟩
  have hmn : m ≤ n := by rw [← hm, ← hn]; exact Pl.cnt_le _ _
  have hmy : y = true → m < n := fun h => by
    have := (Pl.has_iff (k := bs key) ha).1 (by rw [hy]; exact h)
    rw [hm] at this
    obtain ⟨g, _⟩ := this
    omega
  have hB := (bel_box w (.cells #[.int .i64 lv, .slice A n c, .string hi, .bool la, .int .u64 ri] 25)).alloc (by simp) (.cells #[.string ⟨#[]⟩, .int .u64 0] 32)
  have Hc := Lib.hid (refFindAt lv A n c l hi la ri key m y _ hn (hr.below hB) hb hm hy)
  unfold Pl.child at hx
  rw [hm, hy] at hx
  have Hx := Lib.hid hx
  have Hr := Lib.hid hr
  have Hn := Lib.hid hn
  clear hn hr ha hm hy hx hB
  cases y
  · by_cases h0 : m = 0
    · subst h0
      have := Hx.out
      simp only [Bool.false_eq_true, if_false] at this
      rw [Pl.at_out (.inl (by omega))] at this
      injection this with h1 h2
      subst h1; subst h2
      go_enter Try.func18, Try.ntmps18
      go_wp2_with fail
      refine Hc.out.mono ?_
      rintro e w1 ⟨rfl, hb1⟩
      obtain ⟨q0, q1, q2, q3, q4⟩ := box25 (below_of hb1)
      obtain ⟨z0, z1, f0, f1, hz⟩ := slot_box hb1
      go_wp2_with fail
      refine bodyPost_ret (v := .tuple #[.agg #[.string ⟨#[]⟩, .int .u64 0], .bool false]) ?_ rfl ⟨rfl, ?_⟩
      · simp [results, Try.results18, go_sem, z0, z1]
      · exact ((below_of (below_of hb1)).setCell (by simp) _).setCell (by simp) _
    · obtain ⟨j, rfl⟩ : ∃ j, m = j + 1 := ⟨m - 1, by omega⟩
      have := Hx.out
      simp only [Bool.false_eq_true, if_false] at this
      have hjl : j < l.length := by rw [Hn.out]; omega
      rw [show ((j + 1 : Nat) : Int) - 1 = (j : Int) by omega, Pl.at_in hjl] at this
      injection this with h1 h2
      subst h2
      obtain ⟨bl, off, rfl, hbl, hcell⟩ := Hr.out.2 (by omega)
      have hfacts : ∀ W, Below w.heap.size w W → _ := fun W hW => cells2 Hn.out hbl hcell hW j hjl
      rw [h1] at hfacts
      have Hf := Lib.hid hfacts
      have hne : (((j + 1 : Nat) : Int) == 0) = false := by simp; omega
      clear hfacts hcell h1
      go_enter Try.func18, Try.ntmps18
      go_wp2_with fail
      refine Hc.out.mono ?_
      rintro e w1 ⟨rfl, hb1⟩
      obtain ⟨q0, q1, q2, q3, q4⟩ := box25 (below_of hb1)
      obtain ⟨z0, z1, f0, f1, hz⟩ := slot_box hb1
      obtain ⟨hc0, hc1⟩ := Hf.out w1 (below_of (below_of hb1))
      go_wp2_with fail
      refine bodyPost_ret (v := .tuple #[.agg #[.string x.1, .int .u64 x.2], .bool true]) ?_ rfl ⟨rfl, ?_⟩
      · simp [results, Try.results18, go_sem, z0, z1]
      · exact ((below_of (below_of hb1)).setCell (by simp) _).setCell (by simp) _
  · have := Hx.out
    simp only [if_true] at this
    have hjl : m < l.length := by rw [Hn.out]; exact hmy rfl
    rw [Pl.at_in hjl] at this
    injection this with h1 h2
    subst h2
    obtain ⟨bl, off, rfl, hbl, hcell⟩ := Hr.out.2 (by rw [Hn.out] at hjl; omega)
    have hfacts : ∀ W, Below w.heap.size w W → _ := fun W hW => cells2 Hn.out hbl hcell hW m hjl
    rw [h1] at hfacts
    have Hf := Lib.hid hfacts
    have hlt : m < n := hmy rfl
    have hne : ((m : Int) + 1 == 0) = false := by simp; omega
    clear hfacts hcell h1 hmy
    go_enter Try.func18, Try.ntmps18
    go_wp2_with fail
    refine Hc.out.mono ?_
    rintro e w1 ⟨rfl, hb1⟩
    obtain ⟨q0, q1, q2, q3, q4⟩ := box25 (below_of hb1)
    obtain ⟨z0, z1, f0, f1, hz⟩ := slot_box hb1
    obtain ⟨hc0, hc1⟩ := Hf.out w1 (below_of (below_of hb1))
    go_wp2_with fail
    refine bodyPost_ret (v := .tuple #[.agg #[.string x.1, .int .u64 x.2], .bool true]) ?_ rfl ⟨rfl, ?_⟩
    · simp [results, Try.results18, go_sem, z0, z1]
    · exact ((below_of (below_of hb1)).setCell (by simp) _).setCell (by simp) _

set_option maxHeartbeats 1000000 in
theorem refBelowAt (lv : Int) (A : Option Addr) (n c : Nat) (l : List Pl.Slot) (hi : ByteArray) (la : Bool) (ri : Int) (key : ByteArray) (last : Bool) (x : Pl.Slot) (b : Bool) (w : World) (hn : l.length = n) (hr : Rd w 2 A n (l.flatMap fS)) (hb : n ≤ 1000) (hx : Pl.below (bs key) last l = (x, b)) :
    Calls Try.prog 20 #[.agg #[.int .i64 lv, .slice A n c, .string hi, .bool la, .int .u64 ri], .string key, .bool last] w fun e w' => e = .returned (.tuple #[.agg #[.string x.1, .int .u64 x.2], .bool b]) ∧ Below w.heap.size w w' := by
  obtain ⟨m, hm⟩ : ∃ m, Pl.cnt (bs key) l = m := ⟨_, rfl⟩
  obtain ⟨y, hy⟩ : ∃ y, Pl.has (bs key) l = y := ⟨_, rfl⟩
  have hmn : m ≤ n := by rw [← hm, ← hn]; exact Pl.cnt_le _ _
  have hB := (bel_box w (.cells #[.int .i64 lv, .slice A n c, .string hi, .bool la, .int .u64 ri] 25)).alloc (by simp) (.cells #[.string ⟨#[]⟩, .int .u64 0] 32)
  have Hc := Lib.hid (refFindAt lv A n c l hi la ri key m y _ hn (hr.below hB) hb hm hy)
  unfold Pl.below at hx
  rw [hm, hn] at hx
  obtain ⟨p, hp, hpn⟩ : ∃ p : Nat, p = (if last = true then n else m) ∧ p ≤ n := ⟨_, rfl, by split <;> omega⟩
  have hxp : Pl.at_ l ((p : Int) - 1) = (x, b) := by rw [← hx, hp]; cases last <;> rfl
  have Hx := Lib.hid hxp
  have Hr := Lib.hid hr
  have Hn := Lib.hid hn
  clear hn hr hm hy hx hB hxp
  by_cases h0 : p = 0
  · have := Hx.out
    rw [h0, Pl.at_out (.inl (by omega))] at this
    injection this with h1 h2
    subst h1; subst h2
    cases last
    all_goals
      simp at hp
      subst hp; subst h0
      go_enter Try.func20, Try.ntmps20
      go_wp2_with fail
      refine Hc.out.mono ?_
      rintro e w1 ⟨rfl, hb1⟩
      obtain ⟨q0, q1, q2, q3, q4⟩ := box25 (below_of hb1)
      obtain ⟨z0, z1, f0, f1, hz⟩ := slot_box hb1
      go_wp2_with fail
      refine bodyPost_ret (v := .tuple #[.agg #[.string ⟨#[]⟩, .int .u64 0], .bool false]) ?_ rfl ⟨rfl, ?_⟩
      · simp [results, Try.results20, go_sem, z0, z1]
      · exact ((below_of (below_of hb1)).setCell (by simp) _).setCell (by simp) _
  · obtain ⟨j, rfl⟩ : ∃ j, p = j + 1 := ⟨p - 1, by omega⟩
    have := Hx.out
    have hjl : j < l.length := by rw [Hn.out]; omega
    rw [show ((j + 1 : Nat) : Int) - 1 = (j : Int) by omega, Pl.at_in hjl] at this
    injection this with h1 h2
    subst h2
    obtain ⟨bl, off, rfl, hbl, hcell⟩ := Hr.out.2 (by omega)
    have hfacts : ∀ W, Below w.heap.size w W → _ := fun W hW => cells2 Hn.out hbl hcell hW j hjl
    rw [h1] at hfacts
    have Hf := Lib.hid hfacts
    have hne : (((j + 1 : Nat) : Int) == 0) = false := by simp; omega
    clear hfacts hcell h1
    cases last
    all_goals
      simp at hp
      subst hp
      go_enter Try.func20, Try.ntmps20
      go_wp2_with fail
      refine Hc.out.mono ?_
      rintro e w1 ⟨rfl, hb1⟩
      obtain ⟨q0, q1, q2, q3, q4⟩ := box25 (below_of hb1)
      obtain ⟨z0, z1, f0, f1, hz⟩ := slot_box hb1
      obtain ⟨hc0, hc1⟩ := Hf.out w1 (below_of (below_of hb1))
      go_wp2_with fail
      refine bodyPost_ret (v := .tuple #[.agg #[.string x.1, .int .u64 x.2], .bool true]) ?_ rfl ⟨rfl, ?_⟩
      · simp [results, Try.results20, go_sem, z0, z1]
      · exact ((below_of (below_of hb1)).setCell (by simp) _).setCell (by simp) _

def modOf (a m : Int) : Int := if a.tmod m < 0 then a.tmod m + m else a.tmod m
theorem modOf_bd {a m : Int} (hm : 0 < m) : 0 ≤ modOf a m ∧ modOf a m < m := by
  have h1 := Int.tmod_lt_of_pos a hm
  have h2 := Int.lt_tmod_of_pos a hm
  unfold modOf
  split <;> omega
set_option maxHeartbeats 1000000 in
theorem modAt (a m r : Int) (w : World) (hm : 0 < m) (hb : m ≤ 1000) (hr : modOf a m = r) :
    Calls Try.prog 13 #[.int .i64 a, .int .i64 m] w fun e w' => e = .returned (.int .i64 r) ∧ w = w' := by
  have h1 := Int.tmod_lt_of_pos a hm
  have h2 := Int.lt_tmod_of_pos a hm
  have hne : (m == 0) = false := by simp; omega
  by_cases h : a.tmod m < 0
  · obtain rfl : r = a.tmod m + m := by rw [← hr]; simp [modOf, h]
    clear hr
    go_enter Try.func13, Try.ntmps13
    go_wp2_with fail
    go_ret
    exact ⟨rfl, rfl⟩
  · obtain rfl : r = a.tmod m := by rw [← hr]; simp [modOf, h]
    clear hr
    go_enter Try.func13, Try.ntmps13
    go_wp2_with fail
    go_ret
    exact ⟨rfl, rfl⟩
end Go.Proofs.Ytabmokekibgjeaa
