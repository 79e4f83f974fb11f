/-
  RecordCutsCompose: the law returns true on every input. (The walk.)
-/
import Derived.Test.YthffgfgejggjaaaAwake
namespace Go.Proofs.Ythffgfgejggjaaa
open Go.RowKit

theorem cutOf (A : Option Addr) (n c : Nat) (l K : List Pl.Ver) (t : Int) (w : World) (hn : l.length = n) (hr : Rd w 3 A n (l.flatMap fV)) (hb : n ≤ 1000) (hnc : n ≤ c) (hK : Pl.cut l t = K) :
    Calls Try.prog 10 #[.slice A n c, .int .u64 t] w fun e w' => ∃ A' c', e = .returned (.slice A' K.length c') ∧ Rd w' 3 A' K.length (K.flatMap fV) ∧ K.length ≤ c' ∧ Below w.heap.size w w' := by
  subst hK; exact cutRd A n c _ l t w hn hr hb hnc rfl

set_option maxHeartbeats 4000000 in
theorem compose_core (A : Option Addr) (n c : Nat) (a b lo hi : Int) (p : Bool) (L K1 K2 : List Pl.Ver) (da db : Bool) (w : World)
    (hv : Hid (Calls Try.prog 9 #[.slice A n c, .bool p] w fun e w' => ∃ A' c', e = .returned (.slice A' L.length c') ∧ Rd w' 3 A' L.length (L.flatMap fV) ∧ L.length ≤ c' ∧ Below w.heap.size w w'))
    (hL : Hid (L.length ≤ 1000 ∧ K1.length ≤ 1000 ∧ K2.length ≤ 1000)) (ha : 0 ≤ a) (hb : 0 ≤ b)
    (hcase : (¬ b % 100 < a % 100 ∧ Hid (lo = a % 100) ∧ Hid (hi = b % 100)) ∨ (b % 100 < a % 100 ∧ Hid (lo = b % 100) ∧ Hid (hi = a % 100)))
    (h1 : Hid (Pl.cut L lo = K1)) (h2 : Hid (Pl.cut K1 hi = K2)) (h3 : Hid (Pl.cut L hi = K2)) (hd1 : Hid (Pl.dead L lo = da)) (hd2 : Hid (Pl.dead L hi = db)) (hdd : da = false ∨ (da = true ∧ db = true)) :
    Calls Try.prog 6 #[.slice A n c, .int .u64 a, .int .u64 b, .bool p] w fun e w' => e = .returned (.bool true) ∧ Below w.heap.size w w' := by
  rcases hcase with ⟨hc, e1, e2⟩ | ⟨hc, e1, e2⟩
  all_goals
    go_enter Try.func6, Try.ntmps6
    go_wp2_with fail
    refine hv.out.mono ?_
    rintro e w1 ⟨A1, c1, rfl, hr1, hc1, hb1⟩
    have Hr1 := Lib.hid hr1
    have Hb1 := Lib.hid hb1
    clear hr1 hb1
    go_wp2_with fail
    refine (awake_any _).mono ?_
    rintro e w2 ⟨rfl, hb2⟩
    have Hr2 := Lib.hid (Hr1.out.below hb2)
    have Hb2 := Lib.hid (Hb1.out.trans (hb2.mono Hb1.out.size))
    clear hb2
    go_wp2_with fail
    refine (cutOf A1 L.length c1 L K1 _ _ rfl Hr2.out hL.out.1 hc1 (by rw [← e1.out]; exact h1.out)).mono ?_
    rintro e w3 ⟨A3, c3, rfl, hr3, hc3, hb3⟩
    have Hr3 := Lib.hid hr3
    have Hs3 := Lib.hid (Hr2.out.below hb3)
    have Hb3 := Lib.hid (Hb2.out.trans (hb3.mono Hb2.out.size))
    clear hb3 hr3
    go_wp2_with fail
    refine (cutOf A3 K1.length c3 K1 K2 _ _ rfl Hr3.out hL.out.2.1 hc3 (by rw [← e2.out]; exact h2.out)).mono ?_
    rintro e w4 ⟨A4, c4, rfl, hr4, hc4, hb4⟩
    have Hr4 := Lib.hid hr4
    have Hs4 := Lib.hid (Hs3.out.below hb4)
    have Hb4 := Lib.hid (Hb3.out.trans (hb4.mono Hb3.out.size))
    clear hb4 hr4
    go_wp2_with fail
    refine (cutOf A1 L.length c1 L K2 _ _ rfl Hs4.out hL.out.1 hc1 (by rw [← e2.out]; exact h3.out)).mono ?_
    rintro e w5 ⟨A5, c5, rfl, hr5, hc5, hb5⟩
    have Hr5 := Lib.hid hr5
    have Hq5 := Lib.hid (Hr4.out.below hb5)
    have Hs5 := Lib.hid (Hs4.out.below hb5)
    have Hb5 := Lib.hid (Hb4.out.trans (hb5.mono Hb4.out.size))
    clear hb5 hr5
    go_wp2_with fail
    refine (sameAt A4 A5 K2.length c4 K2.length c5 K2 K2 _ rfl rfl Hq5.out Hr5.out hL.out.2.2 hL.out.2.2 rfl).mono ?_
    rintro e w6 ⟨rfl, hb6⟩
    have Hs6 := Lib.hid (Hs5.out.below hb6)
    have Hb6 := Lib.hid (Hb5.out.trans (hb6.mono Hb5.out.size))
    clear hb6
    go_wp2_with fail
    refine (deadAt A1 L.length c1 L _ da _ rfl Hs6.out hL.out.1 (by rw [← e1.out]; exact hd1.out)).mono ?_
    rintro e w7 ⟨rfl, hb7⟩
    have Hs7 := Lib.hid (Hs6.out.below hb7)
    have Hb7 := Lib.hid (Hb6.out.trans (hb7.mono Hb6.out.size))
    clear hb7
    rcases hdd with rfl | ⟨rfl, rfl⟩
    · go_wp2_with fail
      go_ret
      exact ⟨rfl, Hb7.out⟩
    · go_wp2_with fail
      refine (deadAt A1 L.length c1 L _ true _ rfl Hs7.out hL.out.1 (by rw [← e2.out]; exact hd2.out)).mono ?_
      rintro e w8 ⟨rfl, hb8⟩
      have Hb8 := Lib.hid (Hb7.out.trans (hb8.mono Hb7.out.size))
      clear hb8
      go_wp2_with fail
      go_ret
      exact ⟨rfl, Hb8.out⟩

theorem compose_any (A : Option Addr) (n c : Nat) (raw : List Pl.Ver) (a b : Int) (p : Bool) (w : World) (hn : raw.length = n) (hr : Rd w 3 A n (raw.flatMap fV)) (hm : n ≤ maxLen) (hwf : ∀ v ∈ raw, 0 ≤ v.1) (ha : 0 ≤ a) (hb : 0 ≤ b) :
    Calls Try.prog 6 #[.slice A n c, .int .u64 a, .int .u64 b, .bool p] w fun e w' => e = .returned (.bool true) ∧ Below w.heap.size w w' := by
  obtain ⟨h1, h2, _⟩ := Pl.made_ok raw p
  have hv := validRd A n c raw (Pl.made raw p) p w hn hr hm hwf rfl
  have hlen : ∀ t, (Pl.cut (Pl.made raw p) t).length ≤ 1000 := fun t => by rw [Pl.cut_len]; omega
  have key : ∀ lo hi, lo ≤ hi → Pl.dead (Pl.made raw p) lo = false ∨ (Pl.dead (Pl.made raw p) lo = true ∧ Pl.dead (Pl.made raw p) hi = true) := by
    intro lo hi h
    cases hd : Pl.dead (Pl.made raw p) lo with
    | false => exact .inl rfl
    | true => exact .inr ⟨rfl, Pl.dead_mono _ h hd⟩
  by_cases h : b % 100 < a % 100
  · exact compose_core A n c a b (b % 100) (a % 100) p _ _ _ _ _ w hv ⟨by omega, hlen _, hlen _⟩ ha hb (.inr ⟨h, rfl, rfl⟩) rfl (Pl.cut_cut _ (by omega)) rfl rfl rfl (key _ _ (by omega))
  · exact compose_core A n c a b (a % 100) (b % 100) p _ _ _ _ _ w hv ⟨by omega, hlen _, hlen _⟩ ha hb (.inl ⟨h, rfl, rfl⟩) rfl (Pl.cut_cut _ (by omega)) rfl rfl rfl (key _ _ (by omega))
end Go.Proofs.Ythffgfgejggjaaa
