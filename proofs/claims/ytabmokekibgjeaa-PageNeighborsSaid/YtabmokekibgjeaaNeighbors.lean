/-
  PageNeighbors: the walk.
-/
import Derived.Test.YtabmokekibgjeaaSearches
import Derived.Lib.QuietBelow
namespace Go.Proofs.Ytabmokekibgjeaa
open Go.RowKit
attribute [local go_sem] Pl.bl_eq Pl.le_dec Pl.gt_dec tl bs_ex0

theorem neq_slot (x y : Pl.Slot) (w : World) :
    (binOp .neq 32 (.agg #[.string x.1, .int .u64 x.2]) (.agg #[.string y.1, .int .u64 y.2])).run Try.prog w = .ok (.bool (!decide (x = y))) w := by
  obtain ⟨a, b⟩ := x
  obtain ⟨a', b'⟩ := y
  by_cases h1 : a = a'
  · subst h1
    by_cases h2 : b = b' <;> simp [go_sem, h2]
  · have h3 : ¬ bs a = bs a' := fun h => h1 (ba_ext h)
    simp [go_sem, h1, h3]
theorem rd_at {w : World} {b off m : Nat} {L : List Pl.Slot} (hr : Rd w 2 (some ⟨b, off, none⟩) m (L.flatMap fS)) (hn : L.length = m) (k : Nat) (hk : k < L.length) :
    w.cell? ⟨b, off + k * 2, none⟩ = some (.string L[k].1) ∧ w.cell? ⟨b, off + k * 2 + 1, none⟩ = some (.int .u64 L[k].2) ∧ b < w.heap.size := by
  obtain ⟨b', off', he, hbl, hcell⟩ := hr.2 (by omega)
  injection he with he
  injection he with h1 h2
  subst h1; subst h2
  obtain ⟨h3, h4⟩ := cells2 hn hbl hcell (Below.refl _ _) k hk
  exact ⟨h3, h4, hbl⟩

set_option maxHeartbeats 16000000 in
theorem neighbors_any (lv : Int) (A : Option Addr) (n c : Nat) (hi : ByteArray) (la : Bool) (ri : Int) (raw : List Pl.Slot) (key : ByteArray) (at_ : Int) (w : World) (hn : raw.length = n) (hr : Rd w 2 A n (raw.flatMap fS)) (hm : n ≤ maxLen) :
    Calls Try.prog 5 #[.agg #[.int .i64 lv, .slice A n c, .string hi, .bool la, .int .u64 ri], .string key, .int .i64 at_] w fun e w' => e = .returned (.bool true) ∧ Below w.heap.size w w' := by
  obtain ⟨L, hL⟩ : ∃ L, Pl.srt raw = L := ⟨_, rfl⟩
  have hok : Pl.Asc L ∧ L.length ≤ 40 := hL ▸ Pl.srtK_ok raw 40
  obtain ⟨hasc, hlen⟩ := hok
  have HS := Lib.hid (sortedAt lv A n c raw hi la ri L _ hn (hr.below (bel_box w (.cells #[.int .i64 lv, .slice A n c, .string hi, .bool la, .int .u64 ri] 25))) hm hL)
  obtain ⟨m, hmL⟩ : ∃ m, L.length = m := ⟨_, rfl⟩
  rw [hmL] at HS hlen
  have HA := Lib.hid hasc
  have HmL := Lib.hid hmL
  have hqe : ∀ x W, (binOp .eql 32 (.agg #[.string (Prod.fst x), .int .u64 (Prod.snd x)]) (.agg #[.string x.1, .int .u64 x.2])).run Try.prog W = .ok (.bool true) W := fun x W => by rw [eql_slot x x W]; simp
  have hqn : ∀ x W, (binOp .neq 32 (.agg #[.string (Prod.fst x), .int .u64 (Prod.snd x)]) (.agg #[.string x.1, .int .u64 x.2])).run Try.prog W = .ok (.bool false) W := fun x W => by rw [neq_slot x x W]; simp
  have Hqe := Lib.hid hqe
  have Hqn := Lib.hid hqn
  clear hL hasc hn hr hm hmL hqe hqn
  go_enter Try.func5, Try.ntmps5
  go_wp2_with fail
  refine HS.out.mono ?_
  rintro e w1 ⟨A1, c1, rfl, hown, hb1⟩
  have hr1 := (Rd.of_own hown).below (bel_box w1 (.cells #[.int .i64 lv, .slice A1 m c1, .string hi, .bool la, .int .u64 ri] 25))
  have K1 := Blk.new w1 25 #[.int .i64 lv, .slice A1 m c1, .string hi, .bool la, .int .u64 ri]
  have hbw := (below_of hb1).alloc (Nat.le_trans (bel_box w (.cells #[.int .i64 lv, .slice A n c, .string hi, .bool la, .int .u64 ri] 25)).size hb1.size) (.cells #[.int .i64 lv, .slice A1 m c1, .string hi, .bool la, .int .u64 ri] 25)
  have HR := Lib.hid hr1
  have HK := Lib.hid K1
  have HW := Lib.hid hbw
  clear hr1 K1 hbw hown hb1 HS
  have hq : (0 < m ∧ at_.tmod 2 = 0) ∨ (0 < m ∧ ¬ at_.tmod 2 = 0) ∨ m = 0 := by omega
  rcases hq with ⟨hm0, h3⟩ | ⟨hm0, h3⟩ | hm0
  · have h3' : (at_.tmod 2 == 0) = true := by simpa using h3
    obtain ⟨j, hj, hjm⟩ : ∃ j : Nat, modOf (wrap64 (at_.tdiv 2)) m = j ∧ j < m := ⟨(modOf (wrap64 (at_.tdiv 2)) m).toNat, by have := modOf_bd (a := wrap64 (at_.tdiv 2)) (m := m) (by omega); omega, by have := modOf_bd (a := wrap64 (at_.tdiv 2)) (m := m) (by omega); omega⟩
    have HM := fun W => modAt (wrap64 (at_.tdiv 2)) m j W (by omega) (by omega) hj
    have Hmod := Lib.hid HM
    obtain ⟨b, off, hAe, hbl, hcell⟩ := HR.out.2 (by omega)
    subst hAe
    obtain ⟨hc0, hc1⟩ := cells2 HmL.out hbl hcell (Below.refl _ _) j (by rw [HmL.out]; exact hjm)
    generalize (L[j]'(by rw [HmL.out]; exact hjm)).1 = key2 at hc0
    have Hcell := Lib.hid hcell
    obtain ⟨⟨p0, p1, p2, p3, p4⟩, -⟩ := page_of HK.out
    clear hcell hj HM hc1 p0 p2 p3 p4
    go_wp2_with fail
    go_quiet ((go_at_call 13; exact Calls.quiet_of_same ((Hmod.out _).mono fun _ _ ⟨he, hw⟩ => ⟨he, hw.symm⟩)))
    clear hc0 p1 Hmod Hcell
    go_wp2_with fail
    have R0 := Lib.hid (HR.out.drewN nq)
    have K0 := Lib.hid (show Blk ((w1.alloc (.cells #[.int .i64 lv, .slice (some ⟨b, off, none⟩) m c1, .string hi, .bool la, .int .u64 ri] 25)).drewN nq) w1.heap.size 25 _ from HK.out)
    have W0 := Lib.hid (bel_drewN HW.out nq)
    clear HR HK HW
    generalize (w1.alloc (.cells #[.int .i64 lv, .slice (some ⟨b, off, none⟩) m c1, .string hi, .bool la, .int .u64 ri] 25)).drewN nq = V at *
    generalize w1.heap.size = g at *
    obtain ⟨cm, hcm⟩ : ∃ z, Pl.cnt (bs key2) L = z := ⟨_, rfl⟩
    have hcl : cm ≤ m := by rw [← hcm, ← HmL.out]; exact Pl.cnt_le _ _
    obtain ⟨y, hy⟩ : ∃ z, Pl.has (bs key2) L = z := ⟨_, rfl⟩
    obtain ⟨⟨x, xb⟩, hx⟩ : ∃ z, Pl.child (bs key2) L = z := ⟨_, rfl⟩
    obtain ⟨⟨z, zb⟩, hz⟩ : ∃ z, Pl.below (bs key2) false L = z := ⟨_, rfl⟩
    obtain ⟨⟨u, ub⟩, hu⟩ : ∃ z, Pl.below (bs key2) true L = z := ⟨_, rfl⟩
    have Hcm := Lib.hid hcm
    have Hy := Lib.hid hy
    have Hx := Lib.hid hx
    have Hz := Lib.hid hz
    have Hu := Lib.hid hu
    clear hcm hy hx hz hu
    have F0 := Lib.hid (findAt lv (some ⟨b, off, none⟩) m c1 L hi la ri key2 cm y _ HmL.out R0.out (by omega) HA.out Hcm.out Hy.out)
    refine F0.out.mono ?_
    rintro e v0 ⟨rfl, hb⟩
    have R1 := Lib.hid (R0.out.below hb)
    have K1 := Lib.hid (K0.out.below hb K0.out.lt)
    have W1 := Lib.hid (W0.out.trans (hb.mono W0.out.size))
    clear hb F0
    obtain ⟨⟨p0, p1, p2, p3, p4⟩, -⟩ := page_of K1.out
    go_wp2_with fail
    clear p0 p1 p2 p3 p4
    have F1 := Lib.hid (childAt lv (some ⟨b, off, none⟩) m c1 L hi la ri key2 x xb _ HmL.out R1.out (by omega) HA.out Hx.out)
    refine F1.out.mono ?_
    rintro e v1 ⟨rfl, hb⟩
    have hb := hb.alloc hb.size (.cells #[.string x.1, .int .u64 x.2] 32)
    have R2 := Lib.hid (R1.out.below hb)
    have K2 := Lib.hid (K1.out.below hb K1.out.lt)
    have W2 := Lib.hid (W1.out.trans (hb.mono W1.out.size))
    have Bx := Lib.hid (Blk.new v1 32 #[.string x.1, .int .u64 x.2])
    clear hb F1
    obtain ⟨⟨p0, p1, p2, p3, p4⟩, -⟩ := page_of K2.out
    go_wp2_with fail
    clear p0 p1 p2 p3 p4
    have F2 := Lib.hid (belowAt lv (some ⟨b, off, none⟩) m c1 L hi la ri key2 false z zb _ HmL.out R2.out (by omega) HA.out Hz.out)
    refine F2.out.mono ?_
    rintro e v2 ⟨rfl, hb⟩
    have hb := hb.alloc hb.size (.cells #[.string z.1, .int .u64 z.2] 32)
    have R3 := Lib.hid (R2.out.below hb)
    have K3 := Lib.hid (K2.out.below hb K2.out.lt)
    have W3 := Lib.hid (W2.out.trans (hb.mono W2.out.size))
    have Bx := Lib.hid (Bx.out.below hb Bx.out.lt)
    have Bz := Lib.hid (Blk.new v2 32 #[.string z.1, .int .u64 z.2])
    clear hb F2
    obtain ⟨⟨p0, p1, p2, p3, p4⟩, -⟩ := page_of K3.out
    go_wp2_with fail
    clear p0 p1 p2 p3 p4
    have F3 := Lib.hid (belowAt lv (some ⟨b, off, none⟩) m c1 L hi la ri key2 true u ub _ HmL.out R3.out (by omega) HA.out Hu.out)
    refine F3.out.mono ?_
    rintro e v3 ⟨rfl, hb⟩
    have hb := hb.alloc hb.size (.cells #[.string u.1, .int .u64 u.2] 32)
    have R4 := Lib.hid (R3.out.below hb)
    have K4 := Lib.hid (K3.out.below hb K3.out.lt)
    have W4 := Lib.hid (W3.out.trans (hb.mono W3.out.size))
    have Bx := Lib.hid (Bx.out.below hb Bx.out.lt)
    have Bz := Lib.hid (Bz.out.below hb Bz.out.lt)
    have Bu := Lib.hid (Blk.new v3 32 #[.string u.1, .int .u64 u.2])
    clear hb F3
    go_wp2_with fail
    generalize v3.alloc (.cells #[.string u.1, .int .u64 u.2] 32) = Q at *
    generalize v1.heap.size = gx at *
    generalize v2.heap.size = gz at *
    generalize v3.heap.size = gu at *
    obtain ⟨mk, rfl⟩ : ∃ mk, m = mk + 1 := ⟨m - 1, by omega⟩
    have hu0 : (L[mk]'(by rw [HmL.out]; omega), true) = (u, ub) := by rw [← Hu.out]; unfold Pl.below; rw [if_pos rfl, show (L.length : Int) - 1 = (mk : Int) by rw [HmL.out]; omega, Pl.at_in]
    injection hu0 with hu0 hub
    subst hub
    obtain ⟨hu1, hu2, hbq⟩ := rd_at R4.out HmL.out mk (by rw [HmL.out]; omega)
    rw [hu0] at hu1 hu2
    clear hu0
    rcases Nat.eq_zero_or_pos cm with hc0 | hc0
    · have hz0 : (((⟨#[]⟩, 0), false) : Pl.Slot × Bool) = (z, zb) := by rw [← Hz.out]; unfold Pl.below; rw [if_neg (by simp), Hcm.out, Pl.at_out (.inl (by omega))]
      injection hz0 with hz0 hzb
      subst hzb
      cases y
      · have hx0 : (z, false) = (x, xb) := by rw [← Hx.out, ← Hz.out]; unfold Pl.child Pl.below; rw [Hy.out]; simp
        injection hx0 with hx0 hxb
        subst hxb
        have E3 : ∀ W, (binOp .eql 32 (.agg #[.string x.1, .int .u64 x.2]) (.agg #[.string z.1, .int .u64 z.2])).run Try.prog W = .ok (.bool true) W := fun W => by rw [← hx0]; exact Hqe.out z W
        clear hx0
        subst hc0
        have t0 : ∀ d os, (Sort.grow (redrawn Q d) os).cell? ⟨g, 1, none⟩ = some (.slice (some ⟨b, off, none⟩) (mk + 1) c1) := fun d os => cell_regrown (K4.out.cell 1) d os
        have t1 : ∀ d os, (Sort.grow (redrawn Q d) os).cell? ⟨gx, 0, none⟩ = some (.string x.1) := fun d os => cell_regrown (Bx.out.cell 0) d os
        have t2 : ∀ d os, (Sort.grow (redrawn Q d) os).cell? ⟨gx, 1, none⟩ = some (.int .u64 x.2) := fun d os => cell_regrown (Bx.out.cell 1) d os
        have t3 : ∀ d os, (Sort.grow (redrawn Q d) os).cell? ⟨gz, 0, none⟩ = some (.string z.1) := fun d os => cell_regrown (Bz.out.cell 0) d os
        have t4 : ∀ d os, (Sort.grow (redrawn Q d) os).cell? ⟨gz, 1, none⟩ = some (.int .u64 z.2) := fun d os => cell_regrown (Bz.out.cell 1) d os
        have t5 : ∀ d os, (Sort.grow (redrawn Q d) os).cell? ⟨gu, 0, none⟩ = some (.string u.1) := fun d os => cell_regrown (Bu.out.cell 0) d os
        have t6 : ∀ d os, (Sort.grow (redrawn Q d) os).cell? ⟨gu, 1, none⟩ = some (.int .u64 u.2) := fun d os => cell_regrown (Bu.out.cell 1) d os
        have t7 : ∀ d os, (Sort.grow (redrawn Q d) os).cell? ⟨b, off + mk * 2, none⟩ = some (.string u.1) := fun d os => cell_regrown (hu1) d os
        have t8 : ∀ d os, (Sort.grow (redrawn Q d) os).cell? ⟨b, off + mk * 2 + 1, none⟩ = some (.int .u64 u.2) := fun d os => cell_regrown (hu2) d os
        have W5 := W4
        have g2 : decide ((mk : Int) + 1 < (0 : Int)) = false := by simp only [decide_eq_false_iff_not]; omega
        have g3 : decide (mk + 1 < 0) = false := by simp only [decide_eq_false_iff_not]; omega
        have g9 : decide ((0 : Int) < (mk : Int) + 1) = true := by simp only [decide_eq_true_eq]; omega
        have E1 := Hqe.out x
        have E2 := Hqe.out z
        have N1 := Hqn.out z
        have N2 := Hqn.out u
        clear Hcm Hy Hx Hz Hu
        refine wp_region_quiet_below (by kernel_rfl) (by kernel_rfl) ?_
        (iterate 55 (go_big_quiet_step ((go_at_call 9; exact Calls.regrown_of (awake_any _)))))
        refine wpQuiet_nil ?_
        intro w6 hw6
        obtain ⟨pq, rfl⟩ := hw6
        have W6 := Lib.hid (W5.out.trans ((below_regrown Q pq.d pq.os).mono W5.out.size))
        have s0 := t0 pq.d pq.os
        clear t0
        have s1 := t1 pq.d pq.os
        clear t1
        have s2 := t2 pq.d pq.os
        clear t2
        have s3 := t3 pq.d pq.os
        clear t3
        have s4 := t4 pq.d pq.os
        clear t4
        have s5 := t5 pq.d pq.os
        clear t5
        have s6 := t6 pq.d pq.os
        clear t6
        have s7 := t7 pq.d pq.os
        clear t7
        have s8 := t8 pq.d pq.os
        clear t8
        generalize Sort.grow (redrawn Q pq.d) pq.os = w6 at *
        go_wp2_with fail
        go_ret
        exact ⟨rfl, W6.out⟩
      · have hcy : ∃ h : cm < L.length, bs L[cm].1 = bs key2 := by have := (Pl.has_iff (k := bs key2) HA.out).1 Hy.out; rw [Hcm.out] at this; exact this
        obtain ⟨hcy1, hcy2⟩ := hcy
        have hx0 : (L[cm], true) = (x, xb) := by rw [← Hx.out]; unfold Pl.child; rw [Hy.out, Hcm.out, if_pos rfl, Pl.at_in hcy1]
        injection hx0 with hx0 hxb
        subst hxb
        obtain ⟨hx1, hx2, -⟩ := rd_at R4.out HmL.out cm hcy1
        rw [hx0] at hx1 hx2 hcy2
        have hky : (bs x.1 == bs key2) = true := by rw [hcy2]; simp
        have hlt : cm < mk + 1 := by rw [HmL.out] at hcy1; exact hcy1
        clear hx0 hcy2
        subst hc0
        simp only [Nat.zero_mul, Nat.add_zero] at hx1 hx2
        have t0 : ∀ d os, (Sort.grow (redrawn Q d) os).cell? ⟨g, 1, none⟩ = some (.slice (some ⟨b, off, none⟩) (mk + 1) c1) := fun d os => cell_regrown (K4.out.cell 1) d os
        have t1 : ∀ d os, (Sort.grow (redrawn Q d) os).cell? ⟨gx, 0, none⟩ = some (.string x.1) := fun d os => cell_regrown (Bx.out.cell 0) d os
        have t2 : ∀ d os, (Sort.grow (redrawn Q d) os).cell? ⟨gx, 1, none⟩ = some (.int .u64 x.2) := fun d os => cell_regrown (Bx.out.cell 1) d os
        have t3 : ∀ d os, (Sort.grow (redrawn Q d) os).cell? ⟨gz, 0, none⟩ = some (.string z.1) := fun d os => cell_regrown (Bz.out.cell 0) d os
        have t4 : ∀ d os, (Sort.grow (redrawn Q d) os).cell? ⟨gz, 1, none⟩ = some (.int .u64 z.2) := fun d os => cell_regrown (Bz.out.cell 1) d os
        have t5 : ∀ d os, (Sort.grow (redrawn Q d) os).cell? ⟨gu, 0, none⟩ = some (.string u.1) := fun d os => cell_regrown (Bu.out.cell 0) d os
        have t6 : ∀ d os, (Sort.grow (redrawn Q d) os).cell? ⟨gu, 1, none⟩ = some (.int .u64 u.2) := fun d os => cell_regrown (Bu.out.cell 1) d os
        have t7 : ∀ d os, (Sort.grow (redrawn Q d) os).cell? ⟨b, off + mk * 2, none⟩ = some (.string u.1) := fun d os => cell_regrown (hu1) d os
        have t8 : ∀ d os, (Sort.grow (redrawn Q d) os).cell? ⟨b, off + mk * 2 + 1, none⟩ = some (.int .u64 u.2) := fun d os => cell_regrown (hu2) d os
        have t9 : ∀ d os, (Sort.grow (redrawn Q d) os).cell? ⟨b, off, none⟩ = some (.string x.1) := fun d os => cell_regrown (hx1) d os
        have t10 : ∀ d os, (Sort.grow (redrawn Q d) os).cell? ⟨b, off + 1, none⟩ = some (.int .u64 x.2) := fun d os => cell_regrown (hx2) d os
        have W5 := W4
        have g2 : decide ((mk : Int) + 1 < (0 : Int)) = false := by simp only [decide_eq_false_iff_not]; omega
        have g3 : decide (mk + 1 < 0) = false := by simp only [decide_eq_false_iff_not]; omega
        have g9 : decide ((0 : Int) < (mk : Int) + 1) = true := by simp only [decide_eq_true_eq]; omega
        have E1 := Hqe.out x
        have E2 := Hqe.out z
        have N1 := Hqn.out z
        have N2 := Hqn.out u
        clear Hcm Hy Hx Hz Hu
        refine wp_region_quiet_below (by kernel_rfl) (by kernel_rfl) ?_
        (iterate 55 (go_big_quiet_step ((go_at_call 9; exact Calls.regrown_of (awake_any _)))))
        refine wpQuiet_nil ?_
        intro w6 hw6
        obtain ⟨pq, rfl⟩ := hw6
        have W6 := Lib.hid (W5.out.trans ((below_regrown Q pq.d pq.os).mono W5.out.size))
        have s0 := t0 pq.d pq.os
        clear t0
        have s1 := t1 pq.d pq.os
        clear t1
        have s2 := t2 pq.d pq.os
        clear t2
        have s3 := t3 pq.d pq.os
        clear t3
        have s4 := t4 pq.d pq.os
        clear t4
        have s5 := t5 pq.d pq.os
        clear t5
        have s6 := t6 pq.d pq.os
        clear t6
        have s7 := t7 pq.d pq.os
        clear t7
        have s8 := t8 pq.d pq.os
        clear t8
        have s9 := t9 pq.d pq.os
        clear t9
        have s10 := t10 pq.d pq.os
        clear t10
        generalize Sort.grow (redrawn Q pq.d) pq.os = w6 at *
        go_wp2_with fail
        go_quiet (fail)
        go_wp2_with fail
        go_ret
        exact ⟨rfl, bel_drewN W6.out _⟩
    · obtain ⟨ck, rfl⟩ : ∃ ck, cm = ck + 1 := ⟨cm - 1, by omega⟩
      have hz0 : (L[ck]'(by rw [HmL.out]; omega), true) = (z, zb) := by rw [← Hz.out]; unfold Pl.below; rw [if_neg (by simp), Hcm.out, show ((ck + 1 : Nat) : Int) - 1 = (ck : Int) by omega, Pl.at_in]
      injection hz0 with hz0 hzb
      subst hzb
      obtain ⟨hz1, hz2, -⟩ := rd_at R4.out HmL.out ck (by rw [HmL.out]; omega)
      rw [hz0] at hz1 hz2
      clear hz0
      cases y
      · have hx0 : (z, true) = (x, xb) := by rw [← Hx.out, ← Hz.out]; unfold Pl.child Pl.below; rw [Hy.out]; simp
        injection hx0 with hx0 hxb
        subst hxb
        have E3 : ∀ W, (binOp .eql 32 (.agg #[.string x.1, .int .u64 x.2]) (.agg #[.string z.1, .int .u64 z.2])).run Try.prog W = .ok (.bool true) W := fun W => by rw [← hx0]; exact Hqe.out z W
        clear hx0
        have t0 : ∀ d os, (Sort.grow (redrawn Q d) os).cell? ⟨g, 1, none⟩ = some (.slice (some ⟨b, off, none⟩) (mk + 1) c1) := fun d os => cell_regrown (K4.out.cell 1) d os
        have t1 : ∀ d os, (Sort.grow (redrawn Q d) os).cell? ⟨gx, 0, none⟩ = some (.string x.1) := fun d os => cell_regrown (Bx.out.cell 0) d os
        have t2 : ∀ d os, (Sort.grow (redrawn Q d) os).cell? ⟨gx, 1, none⟩ = some (.int .u64 x.2) := fun d os => cell_regrown (Bx.out.cell 1) d os
        have t3 : ∀ d os, (Sort.grow (redrawn Q d) os).cell? ⟨gz, 0, none⟩ = some (.string z.1) := fun d os => cell_regrown (Bz.out.cell 0) d os
        have t4 : ∀ d os, (Sort.grow (redrawn Q d) os).cell? ⟨gz, 1, none⟩ = some (.int .u64 z.2) := fun d os => cell_regrown (Bz.out.cell 1) d os
        have t5 : ∀ d os, (Sort.grow (redrawn Q d) os).cell? ⟨gu, 0, none⟩ = some (.string u.1) := fun d os => cell_regrown (Bu.out.cell 0) d os
        have t6 : ∀ d os, (Sort.grow (redrawn Q d) os).cell? ⟨gu, 1, none⟩ = some (.int .u64 u.2) := fun d os => cell_regrown (Bu.out.cell 1) d os
        have t7 : ∀ d os, (Sort.grow (redrawn Q d) os).cell? ⟨b, off + mk * 2, none⟩ = some (.string u.1) := fun d os => cell_regrown (hu1) d os
        have t8 : ∀ d os, (Sort.grow (redrawn Q d) os).cell? ⟨b, off + mk * 2 + 1, none⟩ = some (.int .u64 u.2) := fun d os => cell_regrown (hu2) d os
        have t9 : ∀ d os, (Sort.grow (redrawn Q d) os).cell? ⟨b, off + ck * 2, none⟩ = some (.string z.1) := fun d os => cell_regrown (hz1) d os
        have t10 : ∀ d os, (Sort.grow (redrawn Q d) os).cell? ⟨b, off + ck * 2 + 1, none⟩ = some (.int .u64 z.2) := fun d os => cell_regrown (hz2) d os
        have W5 := W4
        have g2 : decide ((mk : Int) + 1 < ((ck : Int) + 1)) = false := by simp only [decide_eq_false_iff_not]; omega
        have g3 : decide (mk + 1 < ck + 1) = false := by simp only [decide_eq_false_iff_not]; omega
        have gk : decide (mk < ck) = false := by simp only [decide_eq_false_iff_not]; omega
        have gk2 : decide ((mk : Int) < (ck : Int)) = false := by simp only [decide_eq_false_iff_not]; omega
        have g6 : decide ((ck : Int) + 1 < 0) = false := by simp only [decide_eq_false_iff_not]; omega
        have g7 : decide ((0 : Int) < (ck : Int) + 1) = true := by simp only [decide_eq_true_eq]; omega
        have g9 : decide ((0 : Int) < (mk : Int) + 1) = true := by simp only [decide_eq_true_eq]; omega
        have E1 := Hqe.out x
        have E2 := Hqe.out z
        have N1 := Hqn.out z
        have N2 := Hqn.out u
        clear Hcm Hy Hx Hz Hu
        refine wp_region_quiet_below (by kernel_rfl) (by kernel_rfl) ?_
        (iterate 55 (go_big_quiet_step ((go_at_call 9; exact Calls.regrown_of (awake_any _)))))
        refine wpQuiet_nil ?_
        intro w6 hw6
        obtain ⟨pq, rfl⟩ := hw6
        have W6 := Lib.hid (W5.out.trans ((below_regrown Q pq.d pq.os).mono W5.out.size))
        have s0 := t0 pq.d pq.os
        clear t0
        have s1 := t1 pq.d pq.os
        clear t1
        have s2 := t2 pq.d pq.os
        clear t2
        have s3 := t3 pq.d pq.os
        clear t3
        have s4 := t4 pq.d pq.os
        clear t4
        have s5 := t5 pq.d pq.os
        clear t5
        have s6 := t6 pq.d pq.os
        clear t6
        have s7 := t7 pq.d pq.os
        clear t7
        have s8 := t8 pq.d pq.os
        clear t8
        have s9 := t9 pq.d pq.os
        clear t9
        have s10 := t10 pq.d pq.os
        clear t10
        generalize Sort.grow (redrawn Q pq.d) pq.os = w6 at *
        go_wp2_with fail
        go_ret
        exact ⟨rfl, W6.out⟩
      · have hcy : ∃ h : ck + 1 < L.length, bs L[ck + 1].1 = bs key2 := by have := (Pl.has_iff (k := bs key2) HA.out).1 Hy.out; rw [Hcm.out] at this; exact this
        obtain ⟨hcy1, hcy2⟩ := hcy
        have hx0 : (L[ck + 1], true) = (x, xb) := by rw [← Hx.out]; unfold Pl.child; rw [Hy.out, Hcm.out, if_pos rfl, Pl.at_in hcy1]
        injection hx0 with hx0 hxb
        subst hxb
        obtain ⟨hx1, hx2, -⟩ := rd_at R4.out HmL.out (ck + 1) hcy1
        rw [hx0] at hx1 hx2 hcy2
        have hky : (bs x.1 == bs key2) = true := by rw [hcy2]; simp
        have hlt : ck + 1 < mk + 1 := by rw [HmL.out] at hcy1; exact hcy1
        clear hx0 hcy2
        have gl : decide (ck < mk) = true := by simp only [decide_eq_true_eq]; omega
        have gl2 : decide ((ck : Int) < (mk : Int)) = true := by simp only [decide_eq_true_eq]; omega
        have gl3 : ck < mk := by omega
        have t0 : ∀ d os, (Sort.grow (redrawn Q d) os).cell? ⟨g, 1, none⟩ = some (.slice (some ⟨b, off, none⟩) (mk + 1) c1) := fun d os => cell_regrown (K4.out.cell 1) d os
        have t1 : ∀ d os, (Sort.grow (redrawn Q d) os).cell? ⟨gx, 0, none⟩ = some (.string x.1) := fun d os => cell_regrown (Bx.out.cell 0) d os
        have t2 : ∀ d os, (Sort.grow (redrawn Q d) os).cell? ⟨gx, 1, none⟩ = some (.int .u64 x.2) := fun d os => cell_regrown (Bx.out.cell 1) d os
        have t3 : ∀ d os, (Sort.grow (redrawn Q d) os).cell? ⟨gz, 0, none⟩ = some (.string z.1) := fun d os => cell_regrown (Bz.out.cell 0) d os
        have t4 : ∀ d os, (Sort.grow (redrawn Q d) os).cell? ⟨gz, 1, none⟩ = some (.int .u64 z.2) := fun d os => cell_regrown (Bz.out.cell 1) d os
        have t5 : ∀ d os, (Sort.grow (redrawn Q d) os).cell? ⟨gu, 0, none⟩ = some (.string u.1) := fun d os => cell_regrown (Bu.out.cell 0) d os
        have t6 : ∀ d os, (Sort.grow (redrawn Q d) os).cell? ⟨gu, 1, none⟩ = some (.int .u64 u.2) := fun d os => cell_regrown (Bu.out.cell 1) d os
        have t7 : ∀ d os, (Sort.grow (redrawn Q d) os).cell? ⟨b, off + mk * 2, none⟩ = some (.string u.1) := fun d os => cell_regrown (hu1) d os
        have t8 : ∀ d os, (Sort.grow (redrawn Q d) os).cell? ⟨b, off + mk * 2 + 1, none⟩ = some (.int .u64 u.2) := fun d os => cell_regrown (hu2) d os
        have t9 : ∀ d os, (Sort.grow (redrawn Q d) os).cell? ⟨b, off + ck * 2, none⟩ = some (.string z.1) := fun d os => cell_regrown (hz1) d os
        have t10 : ∀ d os, (Sort.grow (redrawn Q d) os).cell? ⟨b, off + ck * 2 + 1, none⟩ = some (.int .u64 z.2) := fun d os => cell_regrown (hz2) d os
        have t11 : ∀ d os, (Sort.grow (redrawn Q d) os).cell? ⟨b, off + (ck + 1) * 2, none⟩ = some (.string x.1) := fun d os => cell_regrown (hx1) d os
        have t12 : ∀ d os, (Sort.grow (redrawn Q d) os).cell? ⟨b, off + (ck + 1) * 2 + 1, none⟩ = some (.int .u64 x.2) := fun d os => cell_regrown (hx2) d os
        have W5 := W4
        have g2 : decide ((mk : Int) + 1 < ((ck : Int) + 1)) = false := by simp only [decide_eq_false_iff_not]; omega
        have g3 : decide (mk + 1 < ck + 1) = false := by simp only [decide_eq_false_iff_not]; omega
        have gk : decide (mk < ck) = false := by simp only [decide_eq_false_iff_not]; omega
        have gk2 : decide ((mk : Int) < (ck : Int)) = false := by simp only [decide_eq_false_iff_not]; omega
        have g6 : decide ((ck : Int) + 1 < 0) = false := by simp only [decide_eq_false_iff_not]; omega
        have g7 : decide ((0 : Int) < (ck : Int) + 1) = true := by simp only [decide_eq_true_eq]; omega
        have g9 : decide ((0 : Int) < (mk : Int) + 1) = true := by simp only [decide_eq_true_eq]; omega
        have E1 := Hqe.out x
        have E2 := Hqe.out z
        have N1 := Hqn.out z
        have N2 := Hqn.out u
        clear Hcm Hy Hx Hz Hu
        refine wp_region_quiet_below (by kernel_rfl) (by kernel_rfl) ?_
        (iterate 55 (go_big_quiet_step ((go_at_call 9; exact Calls.regrown_of (awake_any _)))))
        refine wpQuiet_nil ?_
        intro w6 hw6
        obtain ⟨pq, rfl⟩ := hw6
        have W6 := Lib.hid (W5.out.trans ((below_regrown Q pq.d pq.os).mono W5.out.size))
        have s0 := t0 pq.d pq.os
        clear t0
        have s1 := t1 pq.d pq.os
        clear t1
        have s2 := t2 pq.d pq.os
        clear t2
        have s3 := t3 pq.d pq.os
        clear t3
        have s4 := t4 pq.d pq.os
        clear t4
        have s5 := t5 pq.d pq.os
        clear t5
        have s6 := t6 pq.d pq.os
        clear t6
        have s7 := t7 pq.d pq.os
        clear t7
        have s8 := t8 pq.d pq.os
        clear t8
        have s9 := t9 pq.d pq.os
        clear t9
        have s10 := t10 pq.d pq.os
        clear t10
        have s11 := t11 pq.d pq.os
        clear t11
        have s12 := t12 pq.d pq.os
        clear t12
        generalize Sort.grow (redrawn Q pq.d) pq.os = w6 at *
        go_wp2_with fail
        go_quiet (fail)
        go_wp2_with fail
        go_ret
        exact ⟨rfl, bel_drewN W6.out _⟩
  · have h3' : (at_.tmod 2 == 0) = false := by simpa using h3
    obtain ⟨b, off, hAe, hbl, hcell⟩ := HR.out.2 (by omega)
    subst hAe
    go_wp2_with fail
    have R0 := Lib.hid HR.out
    have K0 : Hid (Blk (w1.alloc (.cells #[.int .i64 lv, .slice (some ⟨b, off, none⟩) m c1, .string hi, .bool la, .int .u64 ri] 25)) w1.heap.size 25 #[.int .i64 lv, .slice (some ⟨b, off, none⟩) m c1, .string hi, .bool la, .int .u64 ri]) := HK.out
    have W0 := Lib.hid HW.out
    clear HR HK HW
    generalize w1.alloc (.cells #[.int .i64 lv, .slice (some ⟨b, off, none⟩) m c1, .string hi, .bool la, .int .u64 ri] 25) = V at *
    generalize w1.heap.size = g at *
    clear hbl hcell
    obtain ⟨cm, hcm⟩ : ∃ z, Pl.cnt (bs key) L = z := ⟨_, rfl⟩
    have hcl : cm ≤ m := by rw [← hcm, ← HmL.out]; exact Pl.cnt_le _ _
    obtain ⟨y, hy⟩ : ∃ z, Pl.has (bs key) L = z := ⟨_, rfl⟩
    obtain ⟨⟨x, xb⟩, hx⟩ : ∃ z, Pl.child (bs key) L = z := ⟨_, rfl⟩
    obtain ⟨⟨z, zb⟩, hz⟩ : ∃ z, Pl.below (bs key) false L = z := ⟨_, rfl⟩
    obtain ⟨⟨u, ub⟩, hu⟩ : ∃ z, Pl.below (bs key) true L = z := ⟨_, rfl⟩
    have Hcm := Lib.hid hcm
    have Hy := Lib.hid hy
    have Hx := Lib.hid hx
    have Hz := Lib.hid hz
    have Hu := Lib.hid hu
    clear hcm hy hx hz hu
    have F0 := Lib.hid (findAt lv (some ⟨b, off, none⟩) m c1 L hi la ri key cm y _ HmL.out R0.out (by omega) HA.out Hcm.out Hy.out)
    refine F0.out.mono ?_
    rintro e v0 ⟨rfl, hb⟩
    have R1 := Lib.hid (R0.out.below hb)
    have K1 := Lib.hid (K0.out.below hb K0.out.lt)
    have W1 := Lib.hid (W0.out.trans (hb.mono W0.out.size))
    clear hb F0
    obtain ⟨⟨p0, p1, p2, p3, p4⟩, -⟩ := page_of K1.out
    go_wp2_with fail
    clear p0 p1 p2 p3 p4
    have F1 := Lib.hid (childAt lv (some ⟨b, off, none⟩) m c1 L hi la ri key x xb _ HmL.out R1.out (by omega) HA.out Hx.out)
    refine F1.out.mono ?_
    rintro e v1 ⟨rfl, hb⟩
    have hb := hb.alloc hb.size (.cells #[.string x.1, .int .u64 x.2] 32)
    have R2 := Lib.hid (R1.out.below hb)
    have K2 := Lib.hid (K1.out.below hb K1.out.lt)
    have W2 := Lib.hid (W1.out.trans (hb.mono W1.out.size))
    have Bx := Lib.hid (Blk.new v1 32 #[.string x.1, .int .u64 x.2])
    clear hb F1
    obtain ⟨⟨p0, p1, p2, p3, p4⟩, -⟩ := page_of K2.out
    go_wp2_with fail
    clear p0 p1 p2 p3 p4
    have F2 := Lib.hid (belowAt lv (some ⟨b, off, none⟩) m c1 L hi la ri key false z zb _ HmL.out R2.out (by omega) HA.out Hz.out)
    refine F2.out.mono ?_
    rintro e v2 ⟨rfl, hb⟩
    have hb := hb.alloc hb.size (.cells #[.string z.1, .int .u64 z.2] 32)
    have R3 := Lib.hid (R2.out.below hb)
    have K3 := Lib.hid (K2.out.below hb K2.out.lt)
    have W3 := Lib.hid (W2.out.trans (hb.mono W2.out.size))
    have Bx := Lib.hid (Bx.out.below hb Bx.out.lt)
    have Bz := Lib.hid (Blk.new v2 32 #[.string z.1, .int .u64 z.2])
    clear hb F2
    obtain ⟨⟨p0, p1, p2, p3, p4⟩, -⟩ := page_of K3.out
    go_wp2_with fail
    clear p0 p1 p2 p3 p4
    have F3 := Lib.hid (belowAt lv (some ⟨b, off, none⟩) m c1 L hi la ri key true u ub _ HmL.out R3.out (by omega) HA.out Hu.out)
    refine F3.out.mono ?_
    rintro e v3 ⟨rfl, hb⟩
    have hb := hb.alloc hb.size (.cells #[.string u.1, .int .u64 u.2] 32)
    have R4 := Lib.hid (R3.out.below hb)
    have K4 := Lib.hid (K3.out.below hb K3.out.lt)
    have W4 := Lib.hid (W3.out.trans (hb.mono W3.out.size))
    have Bx := Lib.hid (Bx.out.below hb Bx.out.lt)
    have Bz := Lib.hid (Bz.out.below hb Bz.out.lt)
    have Bu := Lib.hid (Blk.new v3 32 #[.string u.1, .int .u64 u.2])
    clear hb F3
    go_wp2_with fail
    generalize v3.alloc (.cells #[.string u.1, .int .u64 u.2] 32) = Q at *
    generalize v1.heap.size = gx at *
    generalize v2.heap.size = gz at *
    generalize v3.heap.size = gu at *
    obtain ⟨mk, rfl⟩ : ∃ mk, m = mk + 1 := ⟨m - 1, by omega⟩
    have hu0 : (L[mk]'(by rw [HmL.out]; omega), true) = (u, ub) := by rw [← Hu.out]; unfold Pl.below; rw [if_pos rfl, show (L.length : Int) - 1 = (mk : Int) by rw [HmL.out]; omega, Pl.at_in]
    injection hu0 with hu0 hub
    subst hub
    obtain ⟨hu1, hu2, hbq⟩ := rd_at R4.out HmL.out mk (by rw [HmL.out]; omega)
    rw [hu0] at hu1 hu2
    clear hu0
    rcases Nat.eq_zero_or_pos cm with hc0 | hc0
    · have hz0 : (((⟨#[]⟩, 0), false) : Pl.Slot × Bool) = (z, zb) := by rw [← Hz.out]; unfold Pl.below; rw [if_neg (by simp), Hcm.out, Pl.at_out (.inl (by omega))]
      injection hz0 with hz0 hzb
      subst hzb
      cases y
      · have hx0 : (z, false) = (x, xb) := by rw [← Hx.out, ← Hz.out]; unfold Pl.child Pl.below; rw [Hy.out]; simp
        injection hx0 with hx0 hxb
        subst hxb
        have E3 : ∀ W, (binOp .eql 32 (.agg #[.string x.1, .int .u64 x.2]) (.agg #[.string z.1, .int .u64 z.2])).run Try.prog W = .ok (.bool true) W := fun W => by rw [← hx0]; exact Hqe.out z W
        clear hx0
        subst hc0
        have t0 : ∀ d os, (Sort.grow (redrawn Q d) os).cell? ⟨g, 1, none⟩ = some (.slice (some ⟨b, off, none⟩) (mk + 1) c1) := fun d os => cell_regrown (K4.out.cell 1) d os
        have t1 : ∀ d os, (Sort.grow (redrawn Q d) os).cell? ⟨gx, 0, none⟩ = some (.string x.1) := fun d os => cell_regrown (Bx.out.cell 0) d os
        have t2 : ∀ d os, (Sort.grow (redrawn Q d) os).cell? ⟨gx, 1, none⟩ = some (.int .u64 x.2) := fun d os => cell_regrown (Bx.out.cell 1) d os
        have t3 : ∀ d os, (Sort.grow (redrawn Q d) os).cell? ⟨gz, 0, none⟩ = some (.string z.1) := fun d os => cell_regrown (Bz.out.cell 0) d os
        have t4 : ∀ d os, (Sort.grow (redrawn Q d) os).cell? ⟨gz, 1, none⟩ = some (.int .u64 z.2) := fun d os => cell_regrown (Bz.out.cell 1) d os
        have t5 : ∀ d os, (Sort.grow (redrawn Q d) os).cell? ⟨gu, 0, none⟩ = some (.string u.1) := fun d os => cell_regrown (Bu.out.cell 0) d os
        have t6 : ∀ d os, (Sort.grow (redrawn Q d) os).cell? ⟨gu, 1, none⟩ = some (.int .u64 u.2) := fun d os => cell_regrown (Bu.out.cell 1) d os
        have t7 : ∀ d os, (Sort.grow (redrawn Q d) os).cell? ⟨b, off + mk * 2, none⟩ = some (.string u.1) := fun d os => cell_regrown (hu1) d os
        have t8 : ∀ d os, (Sort.grow (redrawn Q d) os).cell? ⟨b, off + mk * 2 + 1, none⟩ = some (.int .u64 u.2) := fun d os => cell_regrown (hu2) d os
        have W5 := W4
        have g2 : decide ((mk : Int) + 1 < (0 : Int)) = false := by simp only [decide_eq_false_iff_not]; omega
        have g3 : decide (mk + 1 < 0) = false := by simp only [decide_eq_false_iff_not]; omega
        have g9 : decide ((0 : Int) < (mk : Int) + 1) = true := by simp only [decide_eq_true_eq]; omega
        have E1 := Hqe.out x
        have E2 := Hqe.out z
        have N1 := Hqn.out z
        have N2 := Hqn.out u
        clear Hcm Hy Hx Hz Hu
        refine wp_region_quiet_below (by kernel_rfl) (by kernel_rfl) ?_
        (iterate 55 (go_big_quiet_step ((go_at_call 9; exact Calls.regrown_of (awake_any _)))))
        refine wpQuiet_nil ?_
        intro w6 hw6
        obtain ⟨pq, rfl⟩ := hw6
        have W6 := Lib.hid (W5.out.trans ((below_regrown Q pq.d pq.os).mono W5.out.size))
        have s0 := t0 pq.d pq.os
        clear t0
        have s1 := t1 pq.d pq.os
        clear t1
        have s2 := t2 pq.d pq.os
        clear t2
        have s3 := t3 pq.d pq.os
        clear t3
        have s4 := t4 pq.d pq.os
        clear t4
        have s5 := t5 pq.d pq.os
        clear t5
        have s6 := t6 pq.d pq.os
        clear t6
        have s7 := t7 pq.d pq.os
        clear t7
        have s8 := t8 pq.d pq.os
        clear t8
        generalize Sort.grow (redrawn Q pq.d) pq.os = w6 at *
        go_wp2_with fail
        go_ret
        exact ⟨rfl, W6.out⟩
      · have hcy : ∃ h : cm < L.length, bs L[cm].1 = bs key := by have := (Pl.has_iff (k := bs key) HA.out).1 Hy.out; rw [Hcm.out] at this; exact this
        obtain ⟨hcy1, hcy2⟩ := hcy
        have hx0 : (L[cm], true) = (x, xb) := by rw [← Hx.out]; unfold Pl.child; rw [Hy.out, Hcm.out, if_pos rfl, Pl.at_in hcy1]
        injection hx0 with hx0 hxb
        subst hxb
        obtain ⟨hx1, hx2, -⟩ := rd_at R4.out HmL.out cm hcy1
        rw [hx0] at hx1 hx2 hcy2
        have hky : (bs x.1 == bs key) = true := by rw [hcy2]; simp
        have hlt : cm < mk + 1 := by rw [HmL.out] at hcy1; exact hcy1
        clear hx0 hcy2
        subst hc0
        simp only [Nat.zero_mul, Nat.add_zero] at hx1 hx2
        have t0 : ∀ d os, (Sort.grow (redrawn Q d) os).cell? ⟨g, 1, none⟩ = some (.slice (some ⟨b, off, none⟩) (mk + 1) c1) := fun d os => cell_regrown (K4.out.cell 1) d os
        have t1 : ∀ d os, (Sort.grow (redrawn Q d) os).cell? ⟨gx, 0, none⟩ = some (.string x.1) := fun d os => cell_regrown (Bx.out.cell 0) d os
        have t2 : ∀ d os, (Sort.grow (redrawn Q d) os).cell? ⟨gx, 1, none⟩ = some (.int .u64 x.2) := fun d os => cell_regrown (Bx.out.cell 1) d os
        have t3 : ∀ d os, (Sort.grow (redrawn Q d) os).cell? ⟨gz, 0, none⟩ = some (.string z.1) := fun d os => cell_regrown (Bz.out.cell 0) d os
        have t4 : ∀ d os, (Sort.grow (redrawn Q d) os).cell? ⟨gz, 1, none⟩ = some (.int .u64 z.2) := fun d os => cell_regrown (Bz.out.cell 1) d os
        have t5 : ∀ d os, (Sort.grow (redrawn Q d) os).cell? ⟨gu, 0, none⟩ = some (.string u.1) := fun d os => cell_regrown (Bu.out.cell 0) d os
        have t6 : ∀ d os, (Sort.grow (redrawn Q d) os).cell? ⟨gu, 1, none⟩ = some (.int .u64 u.2) := fun d os => cell_regrown (Bu.out.cell 1) d os
        have t7 : ∀ d os, (Sort.grow (redrawn Q d) os).cell? ⟨b, off + mk * 2, none⟩ = some (.string u.1) := fun d os => cell_regrown (hu1) d os
        have t8 : ∀ d os, (Sort.grow (redrawn Q d) os).cell? ⟨b, off + mk * 2 + 1, none⟩ = some (.int .u64 u.2) := fun d os => cell_regrown (hu2) d os
        have t9 : ∀ d os, (Sort.grow (redrawn Q d) os).cell? ⟨b, off, none⟩ = some (.string x.1) := fun d os => cell_regrown (hx1) d os
        have t10 : ∀ d os, (Sort.grow (redrawn Q d) os).cell? ⟨b, off + 1, none⟩ = some (.int .u64 x.2) := fun d os => cell_regrown (hx2) d os
        have W5 := W4
        have g2 : decide ((mk : Int) + 1 < (0 : Int)) = false := by simp only [decide_eq_false_iff_not]; omega
        have g3 : decide (mk + 1 < 0) = false := by simp only [decide_eq_false_iff_not]; omega
        have g9 : decide ((0 : Int) < (mk : Int) + 1) = true := by simp only [decide_eq_true_eq]; omega
        have E1 := Hqe.out x
        have E2 := Hqe.out z
        have N1 := Hqn.out z
        have N2 := Hqn.out u
        clear Hcm Hy Hx Hz Hu
        refine wp_region_quiet_below (by kernel_rfl) (by kernel_rfl) ?_
        (iterate 55 (go_big_quiet_step ((go_at_call 9; exact Calls.regrown_of (awake_any _)))))
        refine wpQuiet_nil ?_
        intro w6 hw6
        obtain ⟨pq, rfl⟩ := hw6
        have W6 := Lib.hid (W5.out.trans ((below_regrown Q pq.d pq.os).mono W5.out.size))
        have s0 := t0 pq.d pq.os
        clear t0
        have s1 := t1 pq.d pq.os
        clear t1
        have s2 := t2 pq.d pq.os
        clear t2
        have s3 := t3 pq.d pq.os
        clear t3
        have s4 := t4 pq.d pq.os
        clear t4
        have s5 := t5 pq.d pq.os
        clear t5
        have s6 := t6 pq.d pq.os
        clear t6
        have s7 := t7 pq.d pq.os
        clear t7
        have s8 := t8 pq.d pq.os
        clear t8
        have s9 := t9 pq.d pq.os
        clear t9
        have s10 := t10 pq.d pq.os
        clear t10
        generalize Sort.grow (redrawn Q pq.d) pq.os = w6 at *
        go_wp2_with fail
        go_quiet (fail)
        go_wp2_with fail
        go_ret
        exact ⟨rfl, bel_drewN W6.out _⟩
    · obtain ⟨ck, rfl⟩ : ∃ ck, cm = ck + 1 := ⟨cm - 1, by omega⟩
      have hz0 : (L[ck]'(by rw [HmL.out]; omega), true) = (z, zb) := by rw [← Hz.out]; unfold Pl.below; rw [if_neg (by simp), Hcm.out, show ((ck + 1 : Nat) : Int) - 1 = (ck : Int) by omega, Pl.at_in]
      injection hz0 with hz0 hzb
      subst hzb
      obtain ⟨hz1, hz2, -⟩ := rd_at R4.out HmL.out ck (by rw [HmL.out]; omega)
      rw [hz0] at hz1 hz2
      clear hz0
      cases y
      · have hx0 : (z, true) = (x, xb) := by rw [← Hx.out, ← Hz.out]; unfold Pl.child Pl.below; rw [Hy.out]; simp
        injection hx0 with hx0 hxb
        subst hxb
        have E3 : ∀ W, (binOp .eql 32 (.agg #[.string x.1, .int .u64 x.2]) (.agg #[.string z.1, .int .u64 z.2])).run Try.prog W = .ok (.bool true) W := fun W => by rw [← hx0]; exact Hqe.out z W
        clear hx0
        have t0 : ∀ d os, (Sort.grow (redrawn Q d) os).cell? ⟨g, 1, none⟩ = some (.slice (some ⟨b, off, none⟩) (mk + 1) c1) := fun d os => cell_regrown (K4.out.cell 1) d os
        have t1 : ∀ d os, (Sort.grow (redrawn Q d) os).cell? ⟨gx, 0, none⟩ = some (.string x.1) := fun d os => cell_regrown (Bx.out.cell 0) d os
        have t2 : ∀ d os, (Sort.grow (redrawn Q d) os).cell? ⟨gx, 1, none⟩ = some (.int .u64 x.2) := fun d os => cell_regrown (Bx.out.cell 1) d os
        have t3 : ∀ d os, (Sort.grow (redrawn Q d) os).cell? ⟨gz, 0, none⟩ = some (.string z.1) := fun d os => cell_regrown (Bz.out.cell 0) d os
        have t4 : ∀ d os, (Sort.grow (redrawn Q d) os).cell? ⟨gz, 1, none⟩ = some (.int .u64 z.2) := fun d os => cell_regrown (Bz.out.cell 1) d os
        have t5 : ∀ d os, (Sort.grow (redrawn Q d) os).cell? ⟨gu, 0, none⟩ = some (.string u.1) := fun d os => cell_regrown (Bu.out.cell 0) d os
        have t6 : ∀ d os, (Sort.grow (redrawn Q d) os).cell? ⟨gu, 1, none⟩ = some (.int .u64 u.2) := fun d os => cell_regrown (Bu.out.cell 1) d os
        have t7 : ∀ d os, (Sort.grow (redrawn Q d) os).cell? ⟨b, off + mk * 2, none⟩ = some (.string u.1) := fun d os => cell_regrown (hu1) d os
        have t8 : ∀ d os, (Sort.grow (redrawn Q d) os).cell? ⟨b, off + mk * 2 + 1, none⟩ = some (.int .u64 u.2) := fun d os => cell_regrown (hu2) d os
        have t9 : ∀ d os, (Sort.grow (redrawn Q d) os).cell? ⟨b, off + ck * 2, none⟩ = some (.string z.1) := fun d os => cell_regrown (hz1) d os
        have t10 : ∀ d os, (Sort.grow (redrawn Q d) os).cell? ⟨b, off + ck * 2 + 1, none⟩ = some (.int .u64 z.2) := fun d os => cell_regrown (hz2) d os
        have W5 := W4
        have g2 : decide ((mk : Int) + 1 < ((ck : Int) + 1)) = false := by simp only [decide_eq_false_iff_not]; omega
        have g3 : decide (mk + 1 < ck + 1) = false := by simp only [decide_eq_false_iff_not]; omega
        have gk : decide (mk < ck) = false := by simp only [decide_eq_false_iff_not]; omega
        have gk2 : decide ((mk : Int) < (ck : Int)) = false := by simp only [decide_eq_false_iff_not]; omega
        have g6 : decide ((ck : Int) + 1 < 0) = false := by simp only [decide_eq_false_iff_not]; omega
        have g7 : decide ((0 : Int) < (ck : Int) + 1) = true := by simp only [decide_eq_true_eq]; omega
        have g9 : decide ((0 : Int) < (mk : Int) + 1) = true := by simp only [decide_eq_true_eq]; omega
        have E1 := Hqe.out x
        have E2 := Hqe.out z
        have N1 := Hqn.out z
        have N2 := Hqn.out u
        clear Hcm Hy Hx Hz Hu
        refine wp_region_quiet_below (by kernel_rfl) (by kernel_rfl) ?_
        (iterate 55 (go_big_quiet_step ((go_at_call 9; exact Calls.regrown_of (awake_any _)))))
        refine wpQuiet_nil ?_
        intro w6 hw6
        obtain ⟨pq, rfl⟩ := hw6
        have W6 := Lib.hid (W5.out.trans ((below_regrown Q pq.d pq.os).mono W5.out.size))
        have s0 := t0 pq.d pq.os
        clear t0
        have s1 := t1 pq.d pq.os
        clear t1
        have s2 := t2 pq.d pq.os
        clear t2
        have s3 := t3 pq.d pq.os
        clear t3
        have s4 := t4 pq.d pq.os
        clear t4
        have s5 := t5 pq.d pq.os
        clear t5
        have s6 := t6 pq.d pq.os
        clear t6
        have s7 := t7 pq.d pq.os
        clear t7
        have s8 := t8 pq.d pq.os
        clear t8
        have s9 := t9 pq.d pq.os
        clear t9
        have s10 := t10 pq.d pq.os
        clear t10
        generalize Sort.grow (redrawn Q pq.d) pq.os = w6 at *
        go_wp2_with fail
        go_ret
        exact ⟨rfl, W6.out⟩
      · have hcy : ∃ h : ck + 1 < L.length, bs L[ck + 1].1 = bs key := by have := (Pl.has_iff (k := bs key) HA.out).1 Hy.out; rw [Hcm.out] at this; exact this
        obtain ⟨hcy1, hcy2⟩ := hcy
        have hx0 : (L[ck + 1], true) = (x, xb) := by rw [← Hx.out]; unfold Pl.child; rw [Hy.out, Hcm.out, if_pos rfl, Pl.at_in hcy1]
        injection hx0 with hx0 hxb
        subst hxb
        obtain ⟨hx1, hx2, -⟩ := rd_at R4.out HmL.out (ck + 1) hcy1
        rw [hx0] at hx1 hx2 hcy2
        have hky : (bs x.1 == bs key) = true := by rw [hcy2]; simp
        have hlt : ck + 1 < mk + 1 := by rw [HmL.out] at hcy1; exact hcy1
        clear hx0 hcy2
        have gl : decide (ck < mk) = true := by simp only [decide_eq_true_eq]; omega
        have gl2 : decide ((ck : Int) < (mk : Int)) = true := by simp only [decide_eq_true_eq]; omega
        have gl3 : ck < mk := by omega
        have t0 : ∀ d os, (Sort.grow (redrawn Q d) os).cell? ⟨g, 1, none⟩ = some (.slice (some ⟨b, off, none⟩) (mk + 1) c1) := fun d os => cell_regrown (K4.out.cell 1) d os
        have t1 : ∀ d os, (Sort.grow (redrawn Q d) os).cell? ⟨gx, 0, none⟩ = some (.string x.1) := fun d os => cell_regrown (Bx.out.cell 0) d os
        have t2 : ∀ d os, (Sort.grow (redrawn Q d) os).cell? ⟨gx, 1, none⟩ = some (.int .u64 x.2) := fun d os => cell_regrown (Bx.out.cell 1) d os
        have t3 : ∀ d os, (Sort.grow (redrawn Q d) os).cell? ⟨gz, 0, none⟩ = some (.string z.1) := fun d os => cell_regrown (Bz.out.cell 0) d os
        have t4 : ∀ d os, (Sort.grow (redrawn Q d) os).cell? ⟨gz, 1, none⟩ = some (.int .u64 z.2) := fun d os => cell_regrown (Bz.out.cell 1) d os
        have t5 : ∀ d os, (Sort.grow (redrawn Q d) os).cell? ⟨gu, 0, none⟩ = some (.string u.1) := fun d os => cell_regrown (Bu.out.cell 0) d os
        have t6 : ∀ d os, (Sort.grow (redrawn Q d) os).cell? ⟨gu, 1, none⟩ = some (.int .u64 u.2) := fun d os => cell_regrown (Bu.out.cell 1) d os
        have t7 : ∀ d os, (Sort.grow (redrawn Q d) os).cell? ⟨b, off + mk * 2, none⟩ = some (.string u.1) := fun d os => cell_regrown (hu1) d os
        have t8 : ∀ d os, (Sort.grow (redrawn Q d) os).cell? ⟨b, off + mk * 2 + 1, none⟩ = some (.int .u64 u.2) := fun d os => cell_regrown (hu2) d os
        have t9 : ∀ d os, (Sort.grow (redrawn Q d) os).cell? ⟨b, off + ck * 2, none⟩ = some (.string z.1) := fun d os => cell_regrown (hz1) d os
        have t10 : ∀ d os, (Sort.grow (redrawn Q d) os).cell? ⟨b, off + ck * 2 + 1, none⟩ = some (.int .u64 z.2) := fun d os => cell_regrown (hz2) d os
        have t11 : ∀ d os, (Sort.grow (redrawn Q d) os).cell? ⟨b, off + (ck + 1) * 2, none⟩ = some (.string x.1) := fun d os => cell_regrown (hx1) d os
        have t12 : ∀ d os, (Sort.grow (redrawn Q d) os).cell? ⟨b, off + (ck + 1) * 2 + 1, none⟩ = some (.int .u64 x.2) := fun d os => cell_regrown (hx2) d os
        have W5 := W4
        have g2 : decide ((mk : Int) + 1 < ((ck : Int) + 1)) = false := by simp only [decide_eq_false_iff_not]; omega
        have g3 : decide (mk + 1 < ck + 1) = false := by simp only [decide_eq_false_iff_not]; omega
        have gk : decide (mk < ck) = false := by simp only [decide_eq_false_iff_not]; omega
        have gk2 : decide ((mk : Int) < (ck : Int)) = false := by simp only [decide_eq_false_iff_not]; omega
        have g6 : decide ((ck : Int) + 1 < 0) = false := by simp only [decide_eq_false_iff_not]; omega
        have g7 : decide ((0 : Int) < (ck : Int) + 1) = true := by simp only [decide_eq_true_eq]; omega
        have g9 : decide ((0 : Int) < (mk : Int) + 1) = true := by simp only [decide_eq_true_eq]; omega
        have E1 := Hqe.out x
        have E2 := Hqe.out z
        have N1 := Hqn.out z
        have N2 := Hqn.out u
        clear Hcm Hy Hx Hz Hu
        refine wp_region_quiet_below (by kernel_rfl) (by kernel_rfl) ?_
        (iterate 55 (go_big_quiet_step ((go_at_call 9; exact Calls.regrown_of (awake_any _)))))
        refine wpQuiet_nil ?_
        intro w6 hw6
        obtain ⟨pq, rfl⟩ := hw6
        have W6 := Lib.hid (W5.out.trans ((below_regrown Q pq.d pq.os).mono W5.out.size))
        have s0 := t0 pq.d pq.os
        clear t0
        have s1 := t1 pq.d pq.os
        clear t1
        have s2 := t2 pq.d pq.os
        clear t2
        have s3 := t3 pq.d pq.os
        clear t3
        have s4 := t4 pq.d pq.os
        clear t4
        have s5 := t5 pq.d pq.os
        clear t5
        have s6 := t6 pq.d pq.os
        clear t6
        have s7 := t7 pq.d pq.os
        clear t7
        have s8 := t8 pq.d pq.os
        clear t8
        have s9 := t9 pq.d pq.os
        clear t9
        have s10 := t10 pq.d pq.os
        clear t10
        have s11 := t11 pq.d pq.os
        clear t11
        have s12 := t12 pq.d pq.os
        clear t12
        generalize Sort.grow (redrawn Q pq.d) pq.os = w6 at *
        go_wp2_with fail
        go_quiet (fail)
        go_wp2_with fail
        go_ret
        exact ⟨rfl, bel_drewN W6.out _⟩
  · subst hm0
    go_wp2_with fail
    have R0 := Lib.hid HR.out
    have K0 : Hid (Blk (w1.alloc (.cells #[.int .i64 lv, .slice A1 0 c1, .string hi, .bool la, .int .u64 ri] 25)) w1.heap.size 25 #[.int .i64 lv, .slice A1 0 c1, .string hi, .bool la, .int .u64 ri]) := HK.out
    have W0 := Lib.hid HW.out
    clear HR HK HW
    generalize w1.alloc (.cells #[.int .i64 lv, .slice A1 0 c1, .string hi, .bool la, .int .u64 ri] 25) = V at *
    generalize w1.heap.size = g at *
    obtain ⟨cm, hcm⟩ : ∃ z, Pl.cnt (bs key) L = z := ⟨_, rfl⟩
    have hcl : cm ≤ 0 := by rw [← hcm, ← HmL.out]; exact Pl.cnt_le _ _
    obtain ⟨y, hy⟩ : ∃ z, Pl.has (bs key) L = z := ⟨_, rfl⟩
    obtain ⟨⟨x, xb⟩, hx⟩ : ∃ z, Pl.child (bs key) L = z := ⟨_, rfl⟩
    obtain ⟨⟨z, zb⟩, hz⟩ : ∃ z, Pl.below (bs key) false L = z := ⟨_, rfl⟩
    obtain ⟨⟨u, ub⟩, hu⟩ : ∃ z, Pl.below (bs key) true L = z := ⟨_, rfl⟩
    have Hcm := Lib.hid hcm
    have Hy := Lib.hid hy
    have Hx := Lib.hid hx
    have Hz := Lib.hid hz
    have Hu := Lib.hid hu
    clear hcm hy hx hz hu
    have F0 := Lib.hid (findAt lv A1 0 c1 L hi la ri key cm y _ HmL.out R0.out (by omega) HA.out Hcm.out Hy.out)
    refine F0.out.mono ?_
    rintro e v0 ⟨rfl, hb⟩
    have R1 := Lib.hid (R0.out.below hb)
    have K1 := Lib.hid (K0.out.below hb K0.out.lt)
    have W1 := Lib.hid (W0.out.trans (hb.mono W0.out.size))
    clear hb F0
    obtain ⟨⟨p0, p1, p2, p3, p4⟩, -⟩ := page_of K1.out
    go_wp2_with fail
    clear p0 p1 p2 p3 p4
    have F1 := Lib.hid (childAt lv A1 0 c1 L hi la ri key x xb _ HmL.out R1.out (by omega) HA.out Hx.out)
    refine F1.out.mono ?_
    rintro e v1 ⟨rfl, hb⟩
    have hb := hb.alloc hb.size (.cells #[.string x.1, .int .u64 x.2] 32)
    have R2 := Lib.hid (R1.out.below hb)
    have K2 := Lib.hid (K1.out.below hb K1.out.lt)
    have W2 := Lib.hid (W1.out.trans (hb.mono W1.out.size))
    have Bx := Lib.hid (Blk.new v1 32 #[.string x.1, .int .u64 x.2])
    clear hb F1
    obtain ⟨⟨p0, p1, p2, p3, p4⟩, -⟩ := page_of K2.out
    go_wp2_with fail
    clear p0 p1 p2 p3 p4
    have F2 := Lib.hid (belowAt lv A1 0 c1 L hi la ri key false z zb _ HmL.out R2.out (by omega) HA.out Hz.out)
    refine F2.out.mono ?_
    rintro e v2 ⟨rfl, hb⟩
    have hb := hb.alloc hb.size (.cells #[.string z.1, .int .u64 z.2] 32)
    have R3 := Lib.hid (R2.out.below hb)
    have K3 := Lib.hid (K2.out.below hb K2.out.lt)
    have W3 := Lib.hid (W2.out.trans (hb.mono W2.out.size))
    have Bx := Lib.hid (Bx.out.below hb Bx.out.lt)
    have Bz := Lib.hid (Blk.new v2 32 #[.string z.1, .int .u64 z.2])
    clear hb F2
    obtain ⟨⟨p0, p1, p2, p3, p4⟩, -⟩ := page_of K3.out
    go_wp2_with fail
    clear p0 p1 p2 p3 p4
    have F3 := Lib.hid (belowAt lv A1 0 c1 L hi la ri key true u ub _ HmL.out R3.out (by omega) HA.out Hu.out)
    refine F3.out.mono ?_
    rintro e v3 ⟨rfl, hb⟩
    have hb := hb.alloc hb.size (.cells #[.string u.1, .int .u64 u.2] 32)
    have R4 := Lib.hid (R3.out.below hb)
    have K4 := Lib.hid (K3.out.below hb K3.out.lt)
    have W4 := Lib.hid (W3.out.trans (hb.mono W3.out.size))
    have Bx := Lib.hid (Bx.out.below hb Bx.out.lt)
    have Bz := Lib.hid (Bz.out.below hb Bz.out.lt)
    have Bu := Lib.hid (Blk.new v3 32 #[.string u.1, .int .u64 u.2])
    clear hb F3
    go_wp2_with fail
    generalize v3.alloc (.cells #[.string u.1, .int .u64 u.2] 32) = Q at *
    generalize v1.heap.size = gx at *
    generalize v2.heap.size = gz at *
    generalize v3.heap.size = gu at *
    have hc0 : cm = 0 := by omega
    subst hc0
    have hy0 : y = false := by
      cases y
      · rfl
      · have := (Pl.has_iff (k := bs key) HA.out).1 Hy.out
        obtain ⟨g, _⟩ := this
        rw [HmL.out] at g
        omega
    subst hy0
    have hz0 : (((⟨#[]⟩, 0), false) : Pl.Slot × Bool) = (z, zb) := by rw [← Hz.out]; unfold Pl.below; rw [if_neg (by simp), Hcm.out, Pl.at_out (.inl (by omega))]
    have hu0 : (((⟨#[]⟩, 0), false) : Pl.Slot × Bool) = (u, ub) := by rw [← Hu.out]; unfold Pl.below; rw [if_pos rfl, HmL.out, Pl.at_out (.inl (by omega))]
    have hx0 : (z, zb) = (x, xb) := by rw [← Hx.out, ← Hz.out]; unfold Pl.child Pl.below; rw [Hy.out]; simp
    injection hz0 with hz0 hzb
    subst hzb
    injection hu0 with hu0 hub
    subst hub
    injection hx0 with hx0 hxb
    subst hxb
    have E3 : ∀ W, (binOp .eql 32 (.agg #[.string x.1, .int .u64 x.2]) (.agg #[.string z.1, .int .u64 z.2])).run Try.prog W = .ok (.bool true) W := fun W => by rw [← hx0]; exact Hqe.out z W
    clear hx0
    have t0 : ∀ d os, (Sort.grow (redrawn Q d) os).cell? ⟨g, 1, none⟩ = some (.slice A1 0 c1) := fun d os => cell_regrown (K4.out.cell 1) d os
    have t1 : ∀ d os, (Sort.grow (redrawn Q d) os).cell? ⟨gx, 0, none⟩ = some (.string x.1) := fun d os => cell_regrown (Bx.out.cell 0) d os
    have t2 : ∀ d os, (Sort.grow (redrawn Q d) os).cell? ⟨gx, 1, none⟩ = some (.int .u64 x.2) := fun d os => cell_regrown (Bx.out.cell 1) d os
    have t3 : ∀ d os, (Sort.grow (redrawn Q d) os).cell? ⟨gz, 0, none⟩ = some (.string z.1) := fun d os => cell_regrown (Bz.out.cell 0) d os
    have t4 : ∀ d os, (Sort.grow (redrawn Q d) os).cell? ⟨gz, 1, none⟩ = some (.int .u64 z.2) := fun d os => cell_regrown (Bz.out.cell 1) d os
    have t5 : ∀ d os, (Sort.grow (redrawn Q d) os).cell? ⟨gu, 0, none⟩ = some (.string u.1) := fun d os => cell_regrown (Bu.out.cell 0) d os
    have t6 : ∀ d os, (Sort.grow (redrawn Q d) os).cell? ⟨gu, 1, none⟩ = some (.int .u64 u.2) := fun d os => cell_regrown (Bu.out.cell 1) d os
    have W5 := W4
    have E1 := Hqe.out x
    have E2 := Hqe.out z
    have N1 := Hqn.out z
    have N2 := Hqn.out u
    clear Hcm Hy Hx Hz Hu
    refine wp_region_quiet_below (by kernel_rfl) (by kernel_rfl) ?_
    (iterate 55 (go_big_quiet_step ((go_at_call 9; exact Calls.regrown_of (awake_any _)))))
    refine wpQuiet_nil ?_
    intro w6 hw6
    obtain ⟨pq, rfl⟩ := hw6
    have W6 := Lib.hid (W5.out.trans ((below_regrown Q pq.d pq.os).mono W5.out.size))
    have s0 := t0 pq.d pq.os
    clear t0
    have s1 := t1 pq.d pq.os
    clear t1
    have s2 := t2 pq.d pq.os
    clear t2
    have s3 := t3 pq.d pq.os
    clear t3
    have s4 := t4 pq.d pq.os
    clear t4
    have s5 := t5 pq.d pq.os
    clear t5
    have s6 := t6 pq.d pq.os
    clear t6
    generalize Sort.grow (redrawn Q pq.d) pq.os = w6 at *
    go_wp2_with fail
    go_ret
    exact ⟨rfl, W6.out⟩
end Go.Proofs.Ytabmokekibgjeaa
