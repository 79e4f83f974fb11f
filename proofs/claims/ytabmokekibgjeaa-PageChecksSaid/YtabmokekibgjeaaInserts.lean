/-
  PageInserts: the walk.
-/
import Derived.Test.YtabmokekibgjeaaSearches
import Derived.Test.YtabmokekibgjeaaInsert
import Derived.Test.YtabmokekibgjeaaSame
import Derived.Deep.DeepCutAuto
namespace Go.Proofs.Ytabmokekibgjeaa
open Go.RowKit
attribute [local go_sem] Pl.bl_eq Pl.le_dec Pl.gt_dec tl bs_ex0

theorem own_cap {w : World} {base sz n c : Nat} {e : TypeId} {A : Option Addr} {xs : List Value} (h : w.ownsRow base e sz (.slice A n c) n xs) : n ≤ c ∧ c ≤ maxLen := by
  obtain ⟨A', c', hv, h1, h2⟩ := own_slice h
  injection hv with _ _ hc
  subst hc
  exact ⟨h1, h2⟩
namespace Pl
theorem ins_has (k : ByteArray) (r : Int) (l : List Slot) : has (bs k) (ins k r l) = true := by simp [has, ins]
theorem ins_cnt {k : ByteArray} {r : Int} {l : List Slot} (ha : Asc l) : cnt (bs k) (ins k r l) = cnt (bs k) l := by
  have h1 := cnt_all (k := bs k) (l := l.take (cnt (bs k) l)) fun x hx => mem_take_lt ha hx
  have h2 := cnt_zero (k := bs k) (l := l.drop (cnt (bs k) l)) fun x hx => mem_drop_nlt ha hx
  have h3 := cnt_le (bs k) l
  rw [List.length_take] at h1
  rw [ins, cnt_app, h1]
  rw [show (k, r) :: l.drop (cnt (bs k) l) = [(k, r)] ++ l.drop (cnt (bs k) l) from rfl, cnt_app, h2]
  rw [cnt_zero (l := [(k, r)]) (by intro x hx; rw [List.mem_singleton.1 hx]; exact lt_irr _)]
  omega
theorem ins_at {k : ByteArray} {r : Int} {l : List Slot} (h : cnt (bs k) l < (ins k r l).length) : (ins k r l)[cnt (bs k) l] = (k, r) := by
  have h3 := cnt_le (bs k) l
  have e : (ins k r l)[cnt (bs k) l]? = some (k, r) := by
    unfold ins
    rw [List.getElem?_append_right (by rw [List.length_take]; omega), List.length_take, Nat.min_eq_left h3]
    simp
  rw [List.getElem?_eq_getElem h] at e
  exact Option.some.inj e
end Pl

set_option maxRecDepth 100000 in
set_option maxHeartbeats 8000000 in
theorem inserts_any (lv : Int) (A : Option Addr) (n c : Nat) (hi : ByteArray) (la : Bool) (ri : Int) (raw : List Pl.Slot) (key : ByteArray) (r at_ : Int) (w : World) (hn : raw.length = n) (hr : Rd w 2 A n (raw.flatMap fS)) (hm : n ≤ maxLen) :
    Calls Try.prog 7 #[.agg #[.int .i64 lv, .slice A n c, .string hi, .bool la, .int .u64 ri], .string key, .int .u64 r, .int .i64 at_] w fun e w' => e = .returned (.bool true) ∧ Below w.heap.size w w' := by
  obtain ⟨i1, hi1, hy0, hy1, hy2⟩ := info_parts Try.info32
  obtain ⟨L, hL⟩ : ∃ L, Pl.srt raw = L := ⟨_, rfl⟩
  have hok : Pl.Asc L ∧ L.length ≤ 40 := hL ▸ Pl.srtK_ok raw 40
  obtain ⟨hasc, hlen⟩ := hok
  have HS := Lib.hid (sortedAt lv A n c raw hi la ri L _ hn (hr.below (bel_box w (.cells #[.int .i64 lv, .slice A n c, .string hi, .bool la, .int .u64 ri] 25))) hm hL)
  obtain ⟨m, hmL⟩ : ∃ m, L.length = m := ⟨_, rfl⟩
  rw [hmL] at HS hlen
  have HA := Lib.hid hasc
  have HmL := Lib.hid hmL
  clear hL hasc hn hr hm hmL
  go_enter Try.func7, Try.ntmps7
  go_wp2_with fail
  refine HS.out.mono ?_
  rintro e w1 ⟨A1, c1, rfl, hown, hb1⟩
  obtain ⟨hc1, hc1m⟩ := own_cap hown
  have Hc1 := Lib.hid hc1m
  have hr1 := (Rd.of_own hown).below (bel_box w1 (.cells #[.int .i64 lv, .slice A1 m c1, .string hi, .bool la, .int .u64 ri] 25))
  have K1 := Blk.new w1 25 #[.int .i64 lv, .slice A1 m c1, .string hi, .bool la, .int .u64 ri]
  have hbw := (below_of hb1).alloc (Nat.le_trans (bel_box w (.cells #[.int .i64 lv, .slice A n c, .string hi, .bool la, .int .u64 ri] 25)).size hb1.size) (.cells #[.int .i64 lv, .slice A1 m c1, .string hi, .bool la, .int .u64 ri] 25)
  have HR := Lib.hid hr1
  have HK := Lib.hid K1
  have HW := Lib.hid hbw
  clear hr1 K1 hbw hown hb1 HS hc1m
  go_upto_region 2 with fail
  generalize w1.alloc (.cells #[.int .i64 lv, .slice A1 m c1, .string hi, .bool la, .int .u64 ri] 25) = V at *
  generalize w1.heap.size = g at *
  have hgV := HK.out.lt
  go_cut [27] (fun t wx => (∃ y : Bool, t = .bool y ∧ (y = true → 0 < m)) ∧ wx = V)
  case first =>
    have p1 := HK.out.cell 1
    have hq : (0 < m ∧ at_.tmod 4 = 0) ∨ (0 < m ∧ ¬ at_.tmod 4 = 0) ∨ m = 0 := by omega
    rcases hq with ⟨hm0, h3⟩ | ⟨hm0, h3⟩ | hm0
    · have h3' : (at_.tmod 4 == 0) = true := by simpa using h3
      go_wp2_with fail
      go_meet
      exact ⟨⟨true, rfl, fun _ => hm0⟩, rfl⟩
    · have h3' : (at_.tmod 4 == 0) = false := by simpa using h3
      go_wp2_with fail
      go_meet
      exact ⟨⟨false, rfl, fun h => by cases h⟩, rfl⟩
    · subst hm0
      go_wp2_with fail
      go_meet
      exact ⟨⟨false, rfl, fun h => by cases h⟩, rfl⟩
  case rest =>
    obtain ⟨⟨y, rfl, hy⟩, rfl⟩ := hcut
    have Hy := Lib.hid hy
    clear hy
    go_upto_if 27 with fail
    go_cut [1] (fun v wx => ∃ key2 : ByteArray, v = .string key2 ∧ Below wc.heap.size wc wx)
    case first =>
      cases y
      · go_wp2_with fail
        go_meet
        exact ⟨key, rfl, Below.refl _ _⟩
      · have hm0 := Hy.out rfl
        obtain ⟨j, hj, hjm⟩ : ∃ j : Nat, modOf (wrap64 (at_.tdiv 4)) m = j ∧ j < m := ⟨(modOf (wrap64 (at_.tdiv 4)) m).toNat, by have := modOf_bd (a := wrap64 (at_.tdiv 4)) (m := m) (by omega); omega, by have := modOf_bd (a := wrap64 (at_.tdiv 4)) (m := m) (by omega); omega⟩
        have HM := fun W => modAt (wrap64 (at_.tdiv 4)) m j W (by omega) (by omega) hj
        have Hmod := Lib.hid HM
        obtain ⟨b, off, rfl, hbl, hcell⟩ := HR.out.2 (by omega)
        obtain ⟨hc0, hc1'⟩ := cells2 HmL.out hbl hcell (Below.refl _ _) j (by rw [HmL.out]; exact hjm)
        generalize (L[j]'(by rw [HmL.out]; exact hjm)).1 = key2 at hc0
        have p1 := HK.out.cell 1
        clear hcell hj HM hc1'
        go_wp2_with fail
        go_quiet ((go_at_call 13; exact Calls.quiet_of_same ((Hmod.out _).mono fun _ _ ⟨he, hw⟩ => ⟨he, hw.symm⟩)))
        go_wp2_with fail
        go_meet
        exact ⟨key2, rfl, bel_drewN (Below.refl _ _) _⟩
    case rest =>
      obtain ⟨key2, rfl, hbel⟩ := hcut
      have R1 := Lib.hid (HR.out.below hbel)
      have B9 := Lib.hid (HK.out.below hbel hgV)
      have W1 := Lib.hid (HW.out.trans (hbel.mono HW.out.size))
      clear HR HK HW hbel hgV Hy
      have p1 := B9.out.cell 1
      go_wp2_with (at_builtin; refine wpList_append_copy rfl (.const (.slice none 0 0)) (.tmp 40) 22 rfl 32 i1 _ 2 24 Try.underlying22 hi1 hy0 hy1 hy2 rfl (by decide) rfl A1 m c1 (L.flatMap fS) rfl R1.out one_flat (by unfold maxLen; omega) (by omega) ?_; intro A3 c3 w3 hown3 hb3 hc3; obtain ⟨⟨q0, q1, q2, q3, q4⟩, -⟩ := page_of (B9.out.below hb3 B9.out.lt))
      clear p1 q0 q1 q2 q3 q4
      have R1 := Lib.hid (R1.out.below hb3)
      have B9 := Lib.hid (B9.out.below hb3 B9.out.lt)
      have W1 := Lib.hid (W1.out.trans (hb3.mono W1.out.size))
      have RC := Lib.hid (Rd.of_own hown3)
      clear hown3 hb3 hc3
      obtain ⟨cm, hcm⟩ : ∃ z, Pl.cnt (bs key2) L = z := ⟨_, rfl⟩
      have Hcm := Lib.hid hcm
      clear hcm
      cases hy : Pl.has (bs key2) L
      · have Hy := Lib.hid hy
        clear hy
        have HI := Lib.hid (insert_new lv A1 m c1 L hi la ri key2 r w3 HmL.out R1.out (by omega) hc1 Hc1.out HA.out Hy.out)
        have HAI := Lib.hid (Pl.ins_asc (r := r) HA.out Hy.out)
        have hli : (Pl.ins key2 r L).length = m + 1 := by rw [Pl.ins_len, HmL.out]
        have hci : Pl.cnt (bs key2) (Pl.ins key2 r L) = cm := by rw [Pl.ins_cnt HA.out, Hcm.out]
        have hcm1 : cm ≤ m := by rw [← Hcm.out, ← HmL.out]; exact Pl.cnt_le _ _
        have hat : ∀ h : cm < (Pl.ins key2 r L).length, (Pl.ins key2 r L)[cm] = (key2, r) := by rw [← Hcm.out]; exact Pl.ins_at
        have hhi := Pl.ins_has key2 r L
        have Hli := Lib.hid hli
        have Hci := Lib.hid hci
        have Hat := Lib.hid hat
        have Hhi := Lib.hid hhi
        clear hli hci hat hhi
        refine HI.out.mono ?_
        rintro e w4 ⟨A4, c4, rfl, hown4, hb4⟩
        have hb := hb4.alloc hb4.size (.cells #[.int .i64 lv, .slice A4 (m + 1) c4, .string hi, .bool la, .int .u64 ri] 25)
        have RI := Lib.hid ((Rd.of_own hown4).below (bel_box w4 (.cells #[.int .i64 lv, .slice A4 (m + 1) c4, .string hi, .bool la, .int .u64 ri] 25)))
        have B11 := Lib.hid (Blk.new w4 25 #[.int .i64 lv, .slice A4 (m + 1) c4, .string hi, .bool la, .int .u64 ri])
        have R1 := Lib.hid (R1.out.below hb)
        have RC := Lib.hid (RC.out.below hb)
        have B9 := Lib.hid (B9.out.below hb B9.out.lt)
        have W1 := Lib.hid (W1.out.trans (hb.mono W1.out.size))
        clear hown4 hb4 hb HI
        obtain ⟨⟨q0, q1, q2, q3, q4⟩, -⟩ := page_of B9.out
        go_wp2_with fail
        clear q0 q1 q2 q3 q4
        generalize w4.alloc (.cells #[.int .i64 lv, .slice A4 (m + 1) c4, .string hi, .bool la, .int .u64 ri] 25) = X4 at *
        generalize w4.heap.size = g4 at *
        have HJ := Lib.hid (refInsert_new lv A1 m c1 L hi la ri key2 r X4 HmL.out R1.out (by omega) Hy.out)
        refine HJ.out.mono ?_
        rintro e w5 ⟨A5, c5, rfl, hown5, hb5⟩
        have hb := hb5.alloc hb5.size (.cells #[.int .i64 lv, .slice A5 (m + 1) c5, .string hi, .bool la, .int .u64 ri] 25)
        have RJ := Lib.hid ((Rd.of_own hown5).below (bel_box w5 (.cells #[.int .i64 lv, .slice A5 (m + 1) c5, .string hi, .bool la, .int .u64 ri] 25)))
        have B13 := Lib.hid (Blk.new w5 25 #[.int .i64 lv, .slice A5 (m + 1) c5, .string hi, .bool la, .int .u64 ri])
        have R1 := Lib.hid (R1.out.below hb)
        have RC := Lib.hid (RC.out.below hb)
        have RI := Lib.hid (RI.out.below hb)
        have B9 := Lib.hid (B9.out.below hb B9.out.lt)
        have B11 := Lib.hid (B11.out.below hb B11.out.lt)
        have W1 := Lib.hid (W1.out.trans (hb.mono W1.out.size))
        clear hown5 hb5 hb HJ
        go_wp2_with fail
        generalize w5.alloc (.cells #[.int .i64 lv, .slice A5 (m + 1) c5, .string hi, .bool la, .int .u64 ri] 25) = X5 at *
        generalize w5.heap.size = g5 at *
        refine (awake_any X5).mono ?_
        rintro e x1 ⟨rfl, hb⟩
        have R1 := Lib.hid (R1.out.below hb)
        have RC := Lib.hid (RC.out.below hb)
        have RI := Lib.hid (RI.out.below hb)
        have RJ := Lib.hid (RJ.out.below hb)
        have B9 := Lib.hid (B9.out.below hb B9.out.lt)
        have B11 := Lib.hid (B11.out.below hb B11.out.lt)
        have B13 := Lib.hid (B13.out.below hb B13.out.lt)
        have W1 := Lib.hid (W1.out.trans (hb.mono W1.out.size))
        obtain ⟨⟨q0, q1, q2, q3, q4⟩, -⟩ := page_of B11.out
        obtain ⟨⟨z0, z1, z2, z3, z4⟩, -⟩ := page_of B13.out
        clear hb
        go_wp2_with fail
        clear q0 q1 q2 q3 q4 z0 z1 z2 z3 z4
        refine (refSameAt lv A4 A5 (m + 1) c4 c5 _ hi la ri x1 Hli.out RI.out RJ.out (by omega)).mono ?_
        rintro e x2 ⟨rfl, hb⟩
        have R1 := Lib.hid (R1.out.below hb)
        have RC := Lib.hid (RC.out.below hb)
        have RI := Lib.hid (RI.out.below hb)
        have RJ := Lib.hid (RJ.out.below hb)
        have B9 := Lib.hid (B9.out.below hb B9.out.lt)
        have B11 := Lib.hid (B11.out.below hb B11.out.lt)
        have B13 := Lib.hid (B13.out.below hb B13.out.lt)
        have W1 := Lib.hid (W1.out.trans (hb.mono W1.out.size))
        obtain ⟨⟨q0, q1, q2, q3, q4⟩, -⟩ := page_of B9.out
        clear hb
        go_wp2_with fail
        clear q0 q1 q2 q3 q4
        refine (sameAt A1 A3 m c1 c3 L x2 HmL.out R1.out RC.out (by omega)).mono ?_
        rintro e x3 ⟨rfl, hb⟩
        have R1 := Lib.hid (R1.out.below hb)
        have RC := Lib.hid (RC.out.below hb)
        have RI := Lib.hid (RI.out.below hb)
        have RJ := Lib.hid (RJ.out.below hb)
        have B9 := Lib.hid (B9.out.below hb B9.out.lt)
        have B11 := Lib.hid (B11.out.below hb B11.out.lt)
        have B13 := Lib.hid (B13.out.below hb B13.out.lt)
        have W1 := Lib.hid (W1.out.trans (hb.mono W1.out.size))
        obtain ⟨⟨q0, q1, q2, q3, q4⟩, -⟩ := page_of B11.out
        clear hb
        go_wp2_with fail
        clear q0 q1 q2 q3 q4
        refine (findAt lv A4 (m + 1) c4 _ hi la ri key2 cm true x3 Hli.out RI.out (by omega) HAI.out Hci.out Hhi.out).mono ?_
        rintro e x4 ⟨rfl, hb⟩
        have R1 := Lib.hid (R1.out.below hb)
        have RC := Lib.hid (RC.out.below hb)
        have RI := Lib.hid (RI.out.below hb)
        have RJ := Lib.hid (RJ.out.below hb)
        have B9 := Lib.hid (B9.out.below hb B9.out.lt)
        have B11 := Lib.hid (B11.out.below hb B11.out.lt)
        have B13 := Lib.hid (B13.out.below hb B13.out.lt)
        have W1 := Lib.hid (W1.out.trans (hb.mono W1.out.size))
        clear hb
        obtain ⟨b, off, rfl, hbl, hcell⟩ := RI.out.2 (by omega)
        have hil : cm < (Pl.ins key2 r L).length := by rw [Hli.out]; omega
        obtain ⟨hc0, hc1'⟩ := cells2 Hli.out hbl hcell (Below.refl _ _) cm hil
        rw [Hat.out hil] at hc0 hc1'
        obtain ⟨⟨q0, q1, q2, q3, q4⟩, -⟩ := page_of B11.out
        clear hcell hbl
        have hqe := eql_slot (key2, r) (key2, r)
        go_wp2_with fail
        go_ret
        exact ⟨rfl, W1.out⟩
      · have Hy := Lib.hid hy
        clear hy
        have HI := Lib.hid (insert_old lv A1 m c1 L hi la ri key2 r w3 HmL.out R1.out (by omega) HA.out Hy.out)
        refine HI.out.mono ?_
        rintro e w4 ⟨rfl, hb4⟩
        have hb := hb4.alloc hb4.size (.cells #[.int .i64 0, .slice none 0 0, .string ⟨#[]⟩, .bool false, .int .u64 0] 25)
        have B11 := Lib.hid (Blk.new w4 25 #[.int .i64 0, .slice none 0 0, .string ⟨#[]⟩, .bool false, .int .u64 0])
        have R1 := Lib.hid (R1.out.below hb)
        have RC := Lib.hid (RC.out.below hb)
        have B9 := Lib.hid (B9.out.below hb B9.out.lt)
        have W1 := Lib.hid (W1.out.trans (hb.mono W1.out.size))
        clear hb4 hb HI
        obtain ⟨⟨q0, q1, q2, q3, q4⟩, -⟩ := page_of B9.out
        go_wp2_with fail
        clear q0 q1 q2 q3 q4
        generalize w4.alloc (.cells #[.int .i64 0, .slice none 0 0, .string ⟨#[]⟩, .bool false, .int .u64 0] 25) = X4 at *
        generalize w4.heap.size = g4 at *
        have HJ := Lib.hid (refInsert_old lv A1 m c1 L hi la ri key2 r X4 HmL.out R1.out (by omega) Hy.out)
        refine HJ.out.mono ?_
        rintro e w5 ⟨rfl, hb5⟩
        have hb := hb5.alloc hb5.size (.cells #[.int .i64 0, .slice none 0 0, .string ⟨#[]⟩, .bool false, .int .u64 0] 25)
        have B13 := Lib.hid (Blk.new w5 25 #[.int .i64 0, .slice none 0 0, .string ⟨#[]⟩, .bool false, .int .u64 0])
        have R1 := Lib.hid (R1.out.below hb)
        have RC := Lib.hid (RC.out.below hb)
        have B9 := Lib.hid (B9.out.below hb B9.out.lt)
        have B11 := Lib.hid (B11.out.below hb B11.out.lt)
        have W1 := Lib.hid (W1.out.trans (hb.mono W1.out.size))
        clear hb5 hb HJ
        go_wp2_with fail
        generalize w5.alloc (.cells #[.int .i64 0, .slice none 0 0, .string ⟨#[]⟩, .bool false, .int .u64 0] 25) = X5 at *
        generalize w5.heap.size = g5 at *
        refine (awake_any X5).mono ?_
        rintro e x1 ⟨rfl, hb⟩
        have R1 := Lib.hid (R1.out.below hb)
        have RC := Lib.hid (RC.out.below hb)
        have B9 := Lib.hid (B9.out.below hb B9.out.lt)
        have B11 := Lib.hid (B11.out.below hb B11.out.lt)
        have B13 := Lib.hid (B13.out.below hb B13.out.lt)
        have W1 := Lib.hid (W1.out.trans (hb.mono W1.out.size))
        obtain ⟨⟨q0, q1, q2, q3, q4⟩, -⟩ := page_of B11.out
        obtain ⟨⟨z0, z1, z2, z3, z4⟩, -⟩ := page_of B13.out
        clear hb
        go_wp2_with fail
        clear q0 q1 q2 q3 q4 z0 z1 z2 z3 z4
        refine (refSameAt 0 none none 0 0 0 [] ⟨#[]⟩ false 0 x1 rfl Rd.nil Rd.nil (by omega)).mono ?_
        rintro e x2 ⟨rfl, hb⟩
        have R1 := Lib.hid (R1.out.below hb)
        have RC := Lib.hid (RC.out.below hb)
        have B9 := Lib.hid (B9.out.below hb B9.out.lt)
        have B11 := Lib.hid (B11.out.below hb B11.out.lt)
        have B13 := Lib.hid (B13.out.below hb B13.out.lt)
        have W1 := Lib.hid (W1.out.trans (hb.mono W1.out.size))
        obtain ⟨⟨q0, q1, q2, q3, q4⟩, -⟩ := page_of B9.out
        clear hb
        go_wp2_with fail
        clear q0 q1 q2 q3 q4
        refine (sameAt A1 A3 m c1 c3 L x2 HmL.out R1.out RC.out (by omega)).mono ?_
        rintro e x3 ⟨rfl, hb⟩
        have W1 := Lib.hid (W1.out.trans (hb.mono W1.out.size))
        clear hb
        go_wp2_with fail
        go_ret
        exact ⟨rfl, W1.out⟩
end Go.Proofs.Ytabmokekibgjeaa
