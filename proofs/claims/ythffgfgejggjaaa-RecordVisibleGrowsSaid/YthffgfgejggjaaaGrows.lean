/-
  RecordVisibleGrows: the law returns true on every input. (The walk.)
-/
import Derived.Test.YthffgfgejggjaaaAwake
namespace Go.Proofs.Ythffgfgejggjaaa
open Go.RowKit

/-- The first cell of a box, behind calls. -/
theorem boxAt {w w1 : World} {x y z : Value} {t : TypeId} (h : Below (w.alloc (.cells #[x, y, z] t)).heap.size (w.alloc (.cells #[x, y, z] t)) w1) : w1.cell? ⟨w.heap.size, 0, none⟩ = some x := (box3 h).1

set_option maxHeartbeats 4000000 in
theorem grows_core (A : Option Addr) (n c : Nat) (a b lo hi : Int) (p : Bool) (L : List Pl.Ver) (x y : Pl.Ver) (oa ob : Bool) (w : World)
    (hv : Hid (Calls Try.prog 9 #[.slice A n c, .bool p] w fun e w' => ∃ A' c', e = .returned (.slice A' L.length c') ∧ Rd w' 3 A' L.length (L.flatMap fV) ∧ L.length ≤ c' ∧ Below w.heap.size w w'))
    (hL : Hid (L.length ≤ 30)) (ha : 0 ≤ a) (hb : 0 ≤ b)
    (hcase : (¬ b % 100 < a % 100 ∧ Hid (lo = a % 100) ∧ Hid (hi = b % 100)) ∨ (b % 100 < a % 100 ∧ Hid (lo = b % 100) ∧ Hid (hi = a % 100)))
    (hx : Hid (Pl.vis L lo = x ∧ Pl.seen L lo = oa)) (hy : Hid (Pl.vis L hi = y ∧ Pl.seen L hi = ob))
    (hor : (oa = false ∧ ob = false) ∨ (oa = false ∧ ob = true) ∨ (oa = true ∧ ob = true ∧ x.1 ≤ y.1)) (hyb : ob = true → y.1 ≤ hi) :
    Calls Try.prog 5 #[.slice A n c, .int .u64 a, .int .u64 b, .bool p] w fun e w' => e = .returned (.bool true) ∧ Below w.heap.size w w' := by
  obtain ⟨xs, xv, xd⟩ := x
  obtain ⟨ys, yv, yd⟩ := y
  have Hyb := Lib.hid hyb
  clear hyb
  rcases hcase with ⟨hc, h1, h2⟩ | ⟨hc, h1, h2⟩
  all_goals
    go_enter Try.func5, Try.ntmps5
    go_wp2_with fail
    refine hv.out.mono ?_
    rintro e w1 ⟨A1, c1, rfl, hr1, hc1, hb1⟩
    have Hr1 := Lib.hid hr1
    have Hb1 := Lib.hid hb1
    clear hr1 hb1
    go_wp2_with fail
    refine (visAt A1 L.length c1 L _ _ (xs, xv, xd) oa rfl Hr1.out (Nat.le_trans hL.out (by decide)) (by rw [← h1.out]; exact hx.out.1) (by rw [← h1.out]; exact hx.out.2)).mono ?_
    rintro e w2 ⟨rfl, hb2⟩
    have Hr2 := Lib.hid (Hr1.out.below (hb2.alloc hb2.size (.cells #[.int .u64 xs, .string xv, .bool xd] 27)))
    have Hb2 := Lib.hid (Hb1.out.trans ((hb2.alloc hb2.size (.cells #[.int .u64 xs, .string xv, .bool xd] 27)).mono Hb1.out.size))
    clear hb2
    go_wp2_with fail
    refine (visAt A1 L.length c1 L _ _ (ys, yv, yd) ob rfl Hr2.out (Nat.le_trans hL.out (by decide)) (by rw [← h2.out]; exact hy.out.1) (by rw [← h2.out]; exact hy.out.2)).mono ?_
    rintro e w3 ⟨rfl, hb3⟩
    have Hq2 := Lib.hid hb3
    have Hb3 := Lib.hid (Hb2.out.trans ((hb3.alloc hb3.size (.cells #[.int .u64 ys, .string yv, .bool yd] 27)).mono Hb2.out.size))
    clear hb3
    go_wp2_with fail
    refine (awake_any _).mono ?_
    rintro e w4 ⟨rfl, hb4⟩
    have hx0 := boxAt ((Hq2.out.alloc Hq2.out.size (.cells #[.int .u64 ys, .string yv, .bool yd] 27)).trans (hb4.mono (Nat.le_trans Hq2.out.size (by simp))))
    have hy0 := boxAt hb4
    have Hb4 := Lib.hid (Hb3.out.trans (hb4.mono Hb3.out.size))
    clear hb4
    rcases hor with ⟨rfl, rfl⟩ | ⟨rfl, rfl⟩ | ⟨rfl, rfl, h3⟩
    · go_wp2_with fail
      go_ret
      exact ⟨rfl, Hb4.out⟩
    · have h4 := Hyb.out rfl
      rw [h2.out] at h4
      go_wp2_with fail
      go_ret
      exact ⟨rfl, Hb4.out⟩
    · have h4 := Hyb.out rfl
      rw [h2.out] at h4
      go_wp2_with fail
      go_ret
      exact ⟨rfl, Hb4.out⟩

theorem grows_any (A : Option Addr) (n c : Nat) (raw : List Pl.Ver) (a b : Int) (p : Bool) (w : World) (hn : raw.length = n) (hr : Rd w 3 A n (raw.flatMap fV)) (hm : n ≤ maxLen) (hwf : ∀ v ∈ raw, 0 ≤ v.1) (ha : 0 ≤ a) (hb : 0 ≤ b) :
    Calls Try.prog 5 #[.slice A n c, .int .u64 a, .int .u64 b, .bool p] w fun e w' => e = .returned (.bool true) ∧ Below w.heap.size w w' := by
  obtain ⟨h1, h2, _⟩ := Pl.made_ok raw p
  have hv := validRd A n c raw (Pl.made raw p) p w hn hr hm hwf rfl
  have key : ∀ lo hi, lo ≤ hi → ((Pl.seen (Pl.made raw p) lo = false ∧ Pl.seen (Pl.made raw p) hi = false) ∨ (Pl.seen (Pl.made raw p) lo = false ∧ Pl.seen (Pl.made raw p) hi = true) ∨
      (Pl.seen (Pl.made raw p) lo = true ∧ Pl.seen (Pl.made raw p) hi = true ∧ (Pl.vis (Pl.made raw p) lo).1 ≤ (Pl.vis (Pl.made raw p) hi).1)) ∧ (Pl.seen (Pl.made raw p) hi = true → (Pl.vis (Pl.made raw p) hi).1 ≤ hi) := by
    intro lo hi hlh
    refine ⟨?_, fun h => Pl.vis_le h⟩
    cases hs : Pl.seen (Pl.made raw p) lo with
    | false => cases Pl.seen (Pl.made raw p) hi <;> simp
    | true =>
      obtain ⟨g1, g2⟩ := Pl.vis_grows h2 hlh hs
      exact .inr (.inr ⟨rfl, g1, g2⟩)
  by_cases h : b % 100 < a % 100
  · obtain ⟨k1, k2⟩ := key (b % 100) (a % 100) (by omega)
    exact grows_core A n c a b _ _ p _ _ _ _ _ w hv h1 ha hb (.inr ⟨h, rfl, rfl⟩) ⟨rfl, rfl⟩ ⟨rfl, rfl⟩ k1 k2
  · obtain ⟨k1, k2⟩ := key (a % 100) (b % 100) (by omega)
    exact grows_core A n c a b _ _ p _ _ _ _ _ w hv h1 ha hb (.inl ⟨h, rfl, rfl⟩) ⟨rfl, rfl⟩ ⟨rfl, rfl⟩ k1 k2
end Go.Proofs.Ythffgfgejggjaaa
