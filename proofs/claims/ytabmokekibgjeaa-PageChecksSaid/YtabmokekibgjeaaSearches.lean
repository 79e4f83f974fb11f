/-
  PageSearches: the walk.
-/
import Derived.Test.YtabmokekibgjeaaAwake
import Derived.Test.YtabmokekibgjeaaSorted
import Derived.Test.YtabmokekibgjeaaRefs
namespace Go.Proofs.Ytabmokekibgjeaa
open Go.RowKit
attribute [local go_sem] Pl.bl_eq Pl.le_dec Pl.gt_dec tl bs_ex0

theorem toList_inj (a b : ByteArray) : a.toList = b.toList ↔ a = b := by
  rw [tl, tl]
  exact ⟨ba_ext, fun h => by rw [h]⟩
theorem eql_slot (x y : Pl.Slot) (w : World) :
    (binOp .eql 32 (.agg #[.string x.1, .int .u64 x.2]) (.agg #[.string y.1, .int .u64 y.2])).run Try.prog w = .ok (.bool (decide (x = y))) w := by
  obtain ⟨a, b⟩ := x
  obtain ⟨a', b'⟩ := y
  by_cases h1 : a = a'
  · subst h1
    by_cases h2 : b = b' <;> simp [go_sem, h2]
  · have h3 : ¬ bs a = bs a' := fun h => h1 (ba_ext h)
    simp [go_sem, h1, h3]

set_option maxHeartbeats 8000000 in
theorem searches_any (lv : Int) (A : Option Addr) (n c : Nat) (hi : ByteArray) (la : Bool) (ri : Int) (raw : List Pl.Slot) (key : ByteArray) (at_ : Int) (last : Bool) (w : World) (hn : raw.length = n) (hr : Rd w 2 A n (raw.flatMap fS)) (hm : n ≤ maxLen) :
    Calls Try.prog 4 #[.agg #[.int .i64 lv, .slice A n c, .string hi, .bool la, .int .u64 ri], .string key, .int .i64 at_, .bool last] w fun e w' => e = .returned (.bool true) ∧ Below w.heap.size w w' := by
  obtain ⟨L, hL⟩ : ∃ L, Pl.srt raw = L := ⟨_, rfl⟩
  have hok : Pl.Asc L ∧ L.length ≤ 40 := hL ▸ Pl.srtK_ok raw 40
  obtain ⟨hasc, hlen⟩ := hok
  have HS := Lib.hid (sortedAt lv A n c raw hi la ri L _ hn (hr.below (bel_box w (.cells #[.int .i64 lv, .slice A n c, .string hi, .bool la, .int .u64 ri] 25))) hm hL)
  obtain ⟨m, hmL⟩ : ∃ m, L.length = m := ⟨_, rfl⟩
  rw [hmL] at HS hlen
  have HA := Lib.hid hasc
  have HmL := Lib.hid hmL
  have hqe : ∀ x W, (binOp .eql 32 (.agg #[.string (Prod.fst x), .int .u64 (Prod.snd x)]) (.agg #[.string x.1, .int .u64 x.2])).run Try.prog W = .ok (.bool true) W := fun x W => by rw [eql_slot x x W]; simp
  have Hqe := Lib.hid hqe
  clear hL hasc hn hr hm hmL hqe
  go_enter Try.func4, Try.ntmps4
  go_wp2_with fail
  refine HS.out.mono ?_
  rintro e w1 ⟨A1, c1, rfl, hown, hb1⟩
  have hr1 := (Rd.of_own hown).below (bel_box w1 (.cells #[.int .i64 lv, .slice A1 m c1, .string hi, .bool la, .int .u64 ri] 25))
  have K1 := Blk.new w1 25 #[.int .i64 lv, .slice A1 m c1, .string hi, .bool la, .int .u64 ri]
  have hbw := (below_of hb1).alloc (Nat.le_trans (bel_box w (.cells #[.int .i64 lv, .slice A n c, .string hi, .bool la, .int .u64 ri] 25)).size hb1.size) (.cells #[.int .i64 lv, .slice A1 m c1, .string hi, .bool la, .int .u64 ri] 25)
  have HR := Lib.hid hr1
  have HK := Lib.hid K1
  have HW := Lib.hid hbw
  clear hr1 K1 hbw hown hb1 HS
  have hq : (0 < m ∧ ¬ at_.tmod 3 = 0) ∨ (0 < m ∧ at_.tmod 3 = 0) ∨ m = 0 := by omega
  rcases hq with ⟨hm0, h3⟩ | ⟨hm0, h3⟩ | hm0
  · have h3' : (at_.tmod 3 != 0) = true := by simpa using h3
    obtain ⟨j, hj, hjm⟩ : ∃ j : Nat, modOf at_ m = j ∧ j < m := ⟨(modOf at_ m).toNat, by have := modOf_bd (a := at_) (m := m) (by omega); omega, by have := modOf_bd (a := at_) (m := m) (by omega); omega⟩
    have HM := fun W => modAt at_ m j W (by omega) (by omega) hj
    have Hmod := Lib.hid HM
    obtain ⟨b, off, hAe, hbl, hcell⟩ := HR.out.2 (by omega)
    subst hAe
    obtain ⟨hc0, hc1⟩ := cells2 HmL.out hbl hcell (Below.refl _ _) j (by rw [HmL.out]; exact hjm)
    generalize (L[j]'(by rw [HmL.out]; exact hjm)).1 = key2 at hc0
    have Hcell := Lib.hid hcell
    obtain ⟨⟨p0, p1, p2, p3, p4⟩, -⟩ := page_of HK.out
    clear hcell hj HM hc1 p0 p2 p3 p4
    go_wp2_with fail
    go_quiet ((go_at_call 13; exact Calls.quiet_of_same ((Hmod.out _).mono fun _ _ ⟨he, hw⟩ => ⟨he, hw.symm⟩)))
    clear hc0 p1 Hmod Hcell
    go_wp2_with fail
    have R0 := Lib.hid (HR.out.drewN nq)
    have K0 := Lib.hid (show Blk ((w1.alloc (.cells #[.int .i64 lv, .slice (some ⟨b, off, none⟩) m c1, .string hi, .bool la, .int .u64 ri] 25)).drewN nq) w1.heap.size 25 _ from HK.out)
    have W0 := Lib.hid (bel_drewN HW.out nq)
    clear HR HK HW
    generalize (w1.alloc (.cells #[.int .i64 lv, .slice (some ⟨b, off, none⟩) m c1, .string hi, .bool la, .int .u64 ri] 25)).drewN nq = V at *
    generalize w1.heap.size = g at *
    obtain ⟨cm, hcm⟩ : ∃ z, Pl.cnt (bs key2) L = z := ⟨_, rfl⟩
    obtain ⟨y, hy⟩ : ∃ z, Pl.has (bs key2) L = z := ⟨_, rfl⟩
    obtain ⟨⟨x, xb⟩, hx⟩ : ∃ z, Pl.child (bs key2) L = z := ⟨_, rfl⟩
    obtain ⟨⟨z, zb⟩, hz⟩ : ∃ z, Pl.below (bs key2) last L = z := ⟨_, rfl⟩
    have Hcm := Lib.hid hcm
    have Hy := Lib.hid hy
    have Hx := Lib.hid hx
    have Hz := Lib.hid hz
    clear hcm hy hx hz
    have F0 := Lib.hid (findAt lv (some ⟨b, off, none⟩) m c1 L hi la ri key2 cm y _ HmL.out R0.out (by omega) HA.out Hcm.out Hy.out)
    refine F0.out.mono ?_
    rintro e v0 ⟨rfl, hb⟩
    have R1 := Lib.hid (R0.out.below hb)
    have K1 := Lib.hid (K0.out.below hb K0.out.lt)
    have W1 := Lib.hid (W0.out.trans (hb.mono W0.out.size))
    obtain ⟨⟨p0, p1, p2, p3, p4⟩, -⟩ := page_of K1.out
    clear hb F0
    go_wp2_with fail
    clear p0 p1 p2 p3 p4
    have F1 := Lib.hid (refFindAt lv (some ⟨b, off, none⟩) m c1 L hi la ri key2 cm y _ HmL.out R1.out (by omega) Hcm.out Hy.out)
    refine F1.out.mono ?_
    rintro e v1 ⟨rfl, hb⟩
    have R2 := Lib.hid (R1.out.below hb)
    have K2 := Lib.hid (K1.out.below hb K1.out.lt)
    have W2 := Lib.hid (W1.out.trans (hb.mono W1.out.size))
    obtain ⟨⟨p0, p1, p2, p3, p4⟩, -⟩ := page_of K2.out
    clear hb F1
    go_wp2_with fail
    clear p0 p1 p2 p3 p4
    have F2 := Lib.hid (childAt lv (some ⟨b, off, none⟩) m c1 L hi la ri key2 x xb _ HmL.out R2.out (by omega) HA.out Hx.out)
    refine F2.out.mono ?_
    rintro e v2 ⟨rfl, hb⟩
    have hb := hb.alloc hb.size (.cells #[.string x.1, .int .u64 x.2] 32)
    have R3 := Lib.hid (R2.out.below hb)
    have K3 := Lib.hid (K2.out.below hb K2.out.lt)
    have W3 := Lib.hid (W2.out.trans (hb.mono W2.out.size))
    have B2 := Lib.hid (Blk.new v2 32 #[.string x.1, .int .u64 x.2])
    obtain ⟨⟨p0, p1, p2, p3, p4⟩, -⟩ := page_of K3.out
    clear hb F2
    go_wp2_with fail
    clear p0 p1 p2 p3 p4
    have F3 := Lib.hid (refChildAt lv (some ⟨b, off, none⟩) m c1 L hi la ri key2 x xb _ HmL.out R3.out (by omega) HA.out Hx.out)
    refine F3.out.mono ?_
    rintro e v3 ⟨rfl, hb⟩
    have hb := hb.alloc hb.size (.cells #[.string x.1, .int .u64 x.2] 32)
    have R4 := Lib.hid (R3.out.below hb)
    have K4 := Lib.hid (K3.out.below hb K3.out.lt)
    have W4 := Lib.hid (W3.out.trans (hb.mono W3.out.size))
    have B2 := Lib.hid (B2.out.below hb B2.out.lt)
    have B3 := Lib.hid (Blk.new v3 32 #[.string x.1, .int .u64 x.2])
    obtain ⟨⟨p0, p1, p2, p3, p4⟩, -⟩ := page_of K4.out
    clear hb F3
    go_wp2_with fail
    clear p0 p1 p2 p3 p4
    have F4 := Lib.hid (belowAt lv (some ⟨b, off, none⟩) m c1 L hi la ri key2 last z zb _ HmL.out R4.out (by omega) HA.out Hz.out)
    refine F4.out.mono ?_
    rintro e v4 ⟨rfl, hb⟩
    have hb := hb.alloc hb.size (.cells #[.string z.1, .int .u64 z.2] 32)
    have R5 := Lib.hid (R4.out.below hb)
    have K5 := Lib.hid (K4.out.below hb K4.out.lt)
    have W5 := Lib.hid (W4.out.trans (hb.mono W4.out.size))
    have B2 := Lib.hid (B2.out.below hb B2.out.lt)
    have B3 := Lib.hid (B3.out.below hb B3.out.lt)
    have B4 := Lib.hid (Blk.new v4 32 #[.string z.1, .int .u64 z.2])
    obtain ⟨⟨p0, p1, p2, p3, p4⟩, -⟩ := page_of K5.out
    clear hb F4
    go_wp2_with fail
    clear p0 p1 p2 p3 p4
    have F5 := Lib.hid (refBelowAt lv (some ⟨b, off, none⟩) m c1 L hi la ri key2 last z zb _ HmL.out R5.out (by omega) Hz.out)
    refine F5.out.mono ?_
    rintro e v5 ⟨rfl, hb⟩
    have hb := hb.alloc hb.size (.cells #[.string z.1, .int .u64 z.2] 32)
    have R6 := Lib.hid (R5.out.below hb)
    have K6 := Lib.hid (K5.out.below hb K5.out.lt)
    have W6 := Lib.hid (W5.out.trans (hb.mono W5.out.size))
    have B2 := Lib.hid (B2.out.below hb B2.out.lt)
    have B3 := Lib.hid (B3.out.below hb B3.out.lt)
    have B4 := Lib.hid (B4.out.below hb B4.out.lt)
    have B5 := Lib.hid (Blk.new v5 32 #[.string z.1, .int .u64 z.2])
    obtain ⟨⟨p0, p1, p2, p3, p4⟩, -⟩ := page_of K6.out
    clear hb F5
    clear p0 p1 p2 p3 p4
    go_wp2_with (go_at_call 9; refine (awake_any _).mono ?_; rintro e v6 ⟨rfl, hb⟩; have T2 := B2.out.below hb B2.out.lt; have T3 := B3.out.below hb B3.out.lt; have T4 := B4.out.below hb B4.out.lt; have T5 := B5.out.below hb B5.out.lt; have a2 := T2.cell 0; have a3 := T3.cell 0; have a4 := T4.cell 0; have a5 := T5.cell 0; have b2 := T2.cell 1; have b3 := T3.cell 1; have b4 := T4.cell 1; have b5 := T5.cell 1; have W7 := Lib.hid (W6.out.trans (hb.mono W6.out.size)); clear T2 T3 T4 T5 hb; have qx := Hqe.out x v6; have qz := Hqe.out z v6)
    all_goals (go_ret; exact ⟨rfl, W7.out⟩)
  · have h3' : (at_.tmod 3 != 0) = false := by simpa using h3
    go_wp2_with fail
    have R0 := Lib.hid (HR.out)
    have K0 : Hid (Blk (w1.alloc (.cells #[.int .i64 lv, .slice A1 m c1, .string hi, .bool la, .int .u64 ri] 25)) w1.heap.size 25 #[.int .i64 lv, .slice A1 m c1, .string hi, .bool la, .int .u64 ri]) := HK.out
    have W0 := Lib.hid (HW.out)
    clear HR HK HW
    generalize w1.alloc (.cells #[.int .i64 lv, .slice A1 m c1, .string hi, .bool la, .int .u64 ri] 25) = V at *
    generalize w1.heap.size = g at *
    obtain ⟨cm, hcm⟩ : ∃ z, Pl.cnt (bs key) L = z := ⟨_, rfl⟩
    obtain ⟨y, hy⟩ : ∃ z, Pl.has (bs key) L = z := ⟨_, rfl⟩
    obtain ⟨⟨x, xb⟩, hx⟩ : ∃ z, Pl.child (bs key) L = z := ⟨_, rfl⟩
    obtain ⟨⟨z, zb⟩, hz⟩ : ∃ z, Pl.below (bs key) last L = z := ⟨_, rfl⟩
    have Hcm := Lib.hid hcm
    have Hy := Lib.hid hy
    have Hx := Lib.hid hx
    have Hz := Lib.hid hz
    clear hcm hy hx hz
    have F0 := Lib.hid (findAt lv A1 m c1 L hi la ri key cm y _ HmL.out R0.out (by omega) HA.out Hcm.out Hy.out)
    refine F0.out.mono ?_
    rintro e v0 ⟨rfl, hb⟩
    have R1 := Lib.hid (R0.out.below hb)
    have K1 := Lib.hid (K0.out.below hb K0.out.lt)
    have W1 := Lib.hid (W0.out.trans (hb.mono W0.out.size))
    obtain ⟨⟨p0, p1, p2, p3, p4⟩, -⟩ := page_of K1.out
    clear hb F0
    go_wp2_with fail
    clear p0 p1 p2 p3 p4
    have F1 := Lib.hid (refFindAt lv A1 m c1 L hi la ri key cm y _ HmL.out R1.out (by omega) Hcm.out Hy.out)
    refine F1.out.mono ?_
    rintro e v1 ⟨rfl, hb⟩
    have R2 := Lib.hid (R1.out.below hb)
    have K2 := Lib.hid (K1.out.below hb K1.out.lt)
    have W2 := Lib.hid (W1.out.trans (hb.mono W1.out.size))
    obtain ⟨⟨p0, p1, p2, p3, p4⟩, -⟩ := page_of K2.out
    clear hb F1
    go_wp2_with fail
    clear p0 p1 p2 p3 p4
    have F2 := Lib.hid (childAt lv A1 m c1 L hi la ri key x xb _ HmL.out R2.out (by omega) HA.out Hx.out)
    refine F2.out.mono ?_
    rintro e v2 ⟨rfl, hb⟩
    have hb := hb.alloc hb.size (.cells #[.string x.1, .int .u64 x.2] 32)
    have R3 := Lib.hid (R2.out.below hb)
    have K3 := Lib.hid (K2.out.below hb K2.out.lt)
    have W3 := Lib.hid (W2.out.trans (hb.mono W2.out.size))
    have B2 := Lib.hid (Blk.new v2 32 #[.string x.1, .int .u64 x.2])
    obtain ⟨⟨p0, p1, p2, p3, p4⟩, -⟩ := page_of K3.out
    clear hb F2
    go_wp2_with fail
    clear p0 p1 p2 p3 p4
    have F3 := Lib.hid (refChildAt lv A1 m c1 L hi la ri key x xb _ HmL.out R3.out (by omega) HA.out Hx.out)
    refine F3.out.mono ?_
    rintro e v3 ⟨rfl, hb⟩
    have hb := hb.alloc hb.size (.cells #[.string x.1, .int .u64 x.2] 32)
    have R4 := Lib.hid (R3.out.below hb)
    have K4 := Lib.hid (K3.out.below hb K3.out.lt)
    have W4 := Lib.hid (W3.out.trans (hb.mono W3.out.size))
    have B2 := Lib.hid (B2.out.below hb B2.out.lt)
    have B3 := Lib.hid (Blk.new v3 32 #[.string x.1, .int .u64 x.2])
    obtain ⟨⟨p0, p1, p2, p3, p4⟩, -⟩ := page_of K4.out
    clear hb F3
    go_wp2_with fail
    clear p0 p1 p2 p3 p4
    have F4 := Lib.hid (belowAt lv A1 m c1 L hi la ri key last z zb _ HmL.out R4.out (by omega) HA.out Hz.out)
    refine F4.out.mono ?_
    rintro e v4 ⟨rfl, hb⟩
    have hb := hb.alloc hb.size (.cells #[.string z.1, .int .u64 z.2] 32)
    have R5 := Lib.hid (R4.out.below hb)
    have K5 := Lib.hid (K4.out.below hb K4.out.lt)
    have W5 := Lib.hid (W4.out.trans (hb.mono W4.out.size))
    have B2 := Lib.hid (B2.out.below hb B2.out.lt)
    have B3 := Lib.hid (B3.out.below hb B3.out.lt)
    have B4 := Lib.hid (Blk.new v4 32 #[.string z.1, .int .u64 z.2])
    obtain ⟨⟨p0, p1, p2, p3, p4⟩, -⟩ := page_of K5.out
    clear hb F4
    go_wp2_with fail
    clear p0 p1 p2 p3 p4
    have F5 := Lib.hid (refBelowAt lv A1 m c1 L hi la ri key last z zb _ HmL.out R5.out (by omega) Hz.out)
    refine F5.out.mono ?_
    rintro e v5 ⟨rfl, hb⟩
    have hb := hb.alloc hb.size (.cells #[.string z.1, .int .u64 z.2] 32)
    have R6 := Lib.hid (R5.out.below hb)
    have K6 := Lib.hid (K5.out.below hb K5.out.lt)
    have W6 := Lib.hid (W5.out.trans (hb.mono W5.out.size))
    have B2 := Lib.hid (B2.out.below hb B2.out.lt)
    have B3 := Lib.hid (B3.out.below hb B3.out.lt)
    have B4 := Lib.hid (B4.out.below hb B4.out.lt)
    have B5 := Lib.hid (Blk.new v5 32 #[.string z.1, .int .u64 z.2])
    obtain ⟨⟨p0, p1, p2, p3, p4⟩, -⟩ := page_of K6.out
    clear hb F5
    clear p0 p1 p2 p3 p4
    go_wp2_with (go_at_call 9; refine (awake_any _).mono ?_; rintro e v6 ⟨rfl, hb⟩; have T2 := B2.out.below hb B2.out.lt; have T3 := B3.out.below hb B3.out.lt; have T4 := B4.out.below hb B4.out.lt; have T5 := B5.out.below hb B5.out.lt; have a2 := T2.cell 0; have a3 := T3.cell 0; have a4 := T4.cell 0; have a5 := T5.cell 0; have b2 := T2.cell 1; have b3 := T3.cell 1; have b4 := T4.cell 1; have b5 := T5.cell 1; have W7 := Lib.hid (W6.out.trans (hb.mono W6.out.size)); clear T2 T3 T4 T5 hb; have qx := Hqe.out x v6; have qz := Hqe.out z v6)
    all_goals (go_ret; exact ⟨rfl, W7.out⟩)
  · subst hm0
    go_wp2_with fail
    have R0 := Lib.hid (HR.out)
    have K0 : Hid (Blk (w1.alloc (.cells #[.int .i64 lv, .slice A1 0 c1, .string hi, .bool la, .int .u64 ri] 25)) w1.heap.size 25 #[.int .i64 lv, .slice A1 0 c1, .string hi, .bool la, .int .u64 ri]) := HK.out
    have W0 := Lib.hid (HW.out)
    clear HR HK HW
    generalize w1.alloc (.cells #[.int .i64 lv, .slice A1 0 c1, .string hi, .bool la, .int .u64 ri] 25) = V at *
    generalize w1.heap.size = g at *
    obtain ⟨cm, hcm⟩ : ∃ z, Pl.cnt (bs key) L = z := ⟨_, rfl⟩
    obtain ⟨y, hy⟩ : ∃ z, Pl.has (bs key) L = z := ⟨_, rfl⟩
    obtain ⟨⟨x, xb⟩, hx⟩ : ∃ z, Pl.child (bs key) L = z := ⟨_, rfl⟩
    obtain ⟨⟨z, zb⟩, hz⟩ : ∃ z, Pl.below (bs key) last L = z := ⟨_, rfl⟩
    have Hcm := Lib.hid hcm
    have Hy := Lib.hid hy
    have Hx := Lib.hid hx
    have Hz := Lib.hid hz
    clear hcm hy hx hz
    have F0 := Lib.hid (findAt lv A1 0 c1 L hi la ri key cm y _ HmL.out R0.out (by omega) HA.out Hcm.out Hy.out)
    refine F0.out.mono ?_
    rintro e v0 ⟨rfl, hb⟩
    have R1 := Lib.hid (R0.out.below hb)
    have K1 := Lib.hid (K0.out.below hb K0.out.lt)
    have W1 := Lib.hid (W0.out.trans (hb.mono W0.out.size))
    obtain ⟨⟨p0, p1, p2, p3, p4⟩, -⟩ := page_of K1.out
    clear hb F0
    go_wp2_with fail
    clear p0 p1 p2 p3 p4
    have F1 := Lib.hid (refFindAt lv A1 0 c1 L hi la ri key cm y _ HmL.out R1.out (by omega) Hcm.out Hy.out)
    refine F1.out.mono ?_
    rintro e v1 ⟨rfl, hb⟩
    have R2 := Lib.hid (R1.out.below hb)
    have K2 := Lib.hid (K1.out.below hb K1.out.lt)
    have W2 := Lib.hid (W1.out.trans (hb.mono W1.out.size))
    obtain ⟨⟨p0, p1, p2, p3, p4⟩, -⟩ := page_of K2.out
    clear hb F1
    go_wp2_with fail
    clear p0 p1 p2 p3 p4
    have F2 := Lib.hid (childAt lv A1 0 c1 L hi la ri key x xb _ HmL.out R2.out (by omega) HA.out Hx.out)
    refine F2.out.mono ?_
    rintro e v2 ⟨rfl, hb⟩
    have hb := hb.alloc hb.size (.cells #[.string x.1, .int .u64 x.2] 32)
    have R3 := Lib.hid (R2.out.below hb)
    have K3 := Lib.hid (K2.out.below hb K2.out.lt)
    have W3 := Lib.hid (W2.out.trans (hb.mono W2.out.size))
    have B2 := Lib.hid (Blk.new v2 32 #[.string x.1, .int .u64 x.2])
    obtain ⟨⟨p0, p1, p2, p3, p4⟩, -⟩ := page_of K3.out
    clear hb F2
    go_wp2_with fail
    clear p0 p1 p2 p3 p4
    have F3 := Lib.hid (refChildAt lv A1 0 c1 L hi la ri key x xb _ HmL.out R3.out (by omega) HA.out Hx.out)
    refine F3.out.mono ?_
    rintro e v3 ⟨rfl, hb⟩
    have hb := hb.alloc hb.size (.cells #[.string x.1, .int .u64 x.2] 32)
    have R4 := Lib.hid (R3.out.below hb)
    have K4 := Lib.hid (K3.out.below hb K3.out.lt)
    have W4 := Lib.hid (W3.out.trans (hb.mono W3.out.size))
    have B2 := Lib.hid (B2.out.below hb B2.out.lt)
    have B3 := Lib.hid (Blk.new v3 32 #[.string x.1, .int .u64 x.2])
    obtain ⟨⟨p0, p1, p2, p3, p4⟩, -⟩ := page_of K4.out
    clear hb F3
    go_wp2_with fail
    clear p0 p1 p2 p3 p4
    have F4 := Lib.hid (belowAt lv A1 0 c1 L hi la ri key last z zb _ HmL.out R4.out (by omega) HA.out Hz.out)
    refine F4.out.mono ?_
    rintro e v4 ⟨rfl, hb⟩
    have hb := hb.alloc hb.size (.cells #[.string z.1, .int .u64 z.2] 32)
    have R5 := Lib.hid (R4.out.below hb)
    have K5 := Lib.hid (K4.out.below hb K4.out.lt)
    have W5 := Lib.hid (W4.out.trans (hb.mono W4.out.size))
    have B2 := Lib.hid (B2.out.below hb B2.out.lt)
    have B3 := Lib.hid (B3.out.below hb B3.out.lt)
    have B4 := Lib.hid (Blk.new v4 32 #[.string z.1, .int .u64 z.2])
    obtain ⟨⟨p0, p1, p2, p3, p4⟩, -⟩ := page_of K5.out
    clear hb F4
    go_wp2_with fail
    clear p0 p1 p2 p3 p4
    have F5 := Lib.hid (refBelowAt lv A1 0 c1 L hi la ri key last z zb _ HmL.out R5.out (by omega) Hz.out)
    refine F5.out.mono ?_
    rintro e v5 ⟨rfl, hb⟩
    have hb := hb.alloc hb.size (.cells #[.string z.1, .int .u64 z.2] 32)
    have R6 := Lib.hid (R5.out.below hb)
    have K6 := Lib.hid (K5.out.below hb K5.out.lt)
    have W6 := Lib.hid (W5.out.trans (hb.mono W5.out.size))
    have B2 := Lib.hid (B2.out.below hb B2.out.lt)
    have B3 := Lib.hid (B3.out.below hb B3.out.lt)
    have B4 := Lib.hid (B4.out.below hb B4.out.lt)
    have B5 := Lib.hid (Blk.new v5 32 #[.string z.1, .int .u64 z.2])
    obtain ⟨⟨p0, p1, p2, p3, p4⟩, -⟩ := page_of K6.out
    clear hb F5
    clear p0 p1 p2 p3 p4
    go_wp2_with (go_at_call 9; refine (awake_any _).mono ?_; rintro e v6 ⟨rfl, hb⟩; have T2 := B2.out.below hb B2.out.lt; have T3 := B3.out.below hb B3.out.lt; have T4 := B4.out.below hb B4.out.lt; have T5 := B5.out.below hb B5.out.lt; have a2 := T2.cell 0; have a3 := T3.cell 0; have a4 := T4.cell 0; have a5 := T5.cell 0; have b2 := T2.cell 1; have b3 := T3.cell 1; have b4 := T4.cell 1; have b5 := T5.cell 1; have W7 := Lib.hid (W6.out.trans (hb.mono W6.out.size)); clear T2 T3 T4 T5 hb; have qx := Hqe.out x v6; have qz := Hqe.out z v6)
    all_goals (go_ret; exact ⟨rfl, W7.out⟩)
end Go.Proofs.Ytabmokekibgjeaa
