/-
  PageRemoves: the walk.
-/
import Derived.Test.YtabmokekibgjeaaSearches
import Derived.Test.YtabmokekibgjeaaRefRem
import Derived.Test.YtabmokekibgjeaaSame
import Derived.Lib.QuietBelow
import Derived.Deep.RegionHeld3
import Derived.Deep.AppendLies
import Derived.Deep.DeepCutAuto
import Derived.Deep.CutBlock
namespace Go.Proofs.Ytabmokekibgjeaa
open Go.RowKit
attribute [local go_sem] Pl.bl_eq Pl.le_dec Pl.gt_dec tl bs_ex0

theorem one_flat {l : List Pl.Slot} : ∀ u ∈ l.flatMap fS, u.oneCell' = true := by
  intro u hu
  obtain ⟨x, -, hx⟩ := List.mem_flatMap.1 hu
  exact one_fS x u hx
theorem Pl.rem_has {KS : List ByteArray} {L : List Pl.Slot} {x : Pl.Slot} (hx : x ∈ L) : Pl.has (bs x.1) (Pl.rem KS L) = !Pl.isin KS x.1 := by
  cases h : Pl.isin KS x.1
  · exact List.any_eq_true.2 ⟨x, List.mem_filter.2 ⟨hx, by rw [h]; rfl⟩, by simp⟩
  · rw [Bool.not_true]
    refine Bool.eq_false_iff.2 fun hh => ?_
    obtain ⟨y, hy, hk⟩ := List.any_eq_true.1 hh
    obtain ⟨-, hn⟩ := List.mem_filter.1 hy
    rw [ba_ext (beq_iff_eq.1 hk), h] at hn
    cases hn
theorem Try.info9 : (Try.prog.info? 9).map (fun i => (i.zero, i.size, i.bytes)) = some (some (.string ⟨#[]⟩), 1, 16) := by kernel_rfl

set_option maxHeartbeats 1000000 in
theorem removes_big (lv : Int) (A : Option Addr) (n c : Nat) (hi : ByteArray) (la : Bool) (ri : Int) (B : Option Addr) (q d : Nat) (S : Option Addr) (r cs : Nat) (w : World) (hq : q ≤ maxLen) (hr : r ≤ maxLen) (h : 20 < q ∨ (q ≤ 20 ∧ 20 < r)) :
    Calls Try.prog 6 #[.agg #[.int .i64 lv, .slice A n c, .string hi, .bool la, .int .u64 ri], .slice B q d, .slice S r cs] w fun e w' => e = .returned (.bool true) ∧ Below w.heap.size w w' := by
  unfold maxLen at hq hr
  rcases h with h | ⟨h1, h2⟩
  · have g1 : decide (20 < (q : Int)) = true := by simp only [decide_eq_true_eq]; omega
    go_enter Try.func6, Try.ntmps6
    go_wp2_with (go_at_call 9; refine (awake_any _).mono ?_; rintro e v6 ⟨rfl, hb⟩)
    go_ret
    exact ⟨rfl, below_of hb⟩
  · have g1 : decide (20 < (q : Int)) = false := by simp only [decide_eq_false_iff_not]; omega
    have g2 : decide (20 < (r : Int)) = true := by simp only [decide_eq_true_eq]; omega
    go_enter Try.func6, Try.ntmps6
    go_wp2_with (go_at_call 9; refine (awake_any _).mono ?_; rintro e v6 ⟨rfl, hb⟩)
    go_ret
    exact ⟨rfl, below_of hb⟩

set_option maxRecDepth 100000 in
set_option maxHeartbeats 8000000 in
theorem removes_any (lv : Int) (A : Option Addr) (n c : Nat) (hi : ByteArray) (la : Bool) (ri : Int) (raw : List Pl.Slot) (B : Option Addr) (q d : Nat) (ks : List ByteArray) (S : Option Addr) (r cs : Nat) (us : List Int) (w : World)
    (hn : raw.length = n) (hr : Rd w 2 A n (raw.flatMap fS)) (hm : n ≤ maxLen) (hq : ks.length = q) (hk : Rd w 1 B q (ks.map .string)) (hqm : q ≤ 20) (hu : us.length = r) (hs : Rd w 1 S r (us.map (.int .u8))) (hrm : r ≤ 20) (hub : ∀ u ∈ us, 0 ≤ u ∧ u < 256) :
    Calls Try.prog 6 #[.agg #[.int .i64 lv, .slice A n c, .string hi, .bool la, .int .u64 ri], .slice B q d, .slice S r cs] w fun e w' => e = .returned (.bool true) ∧ Below w.heap.size w w' := by
  obtain ⟨i0, hi0, hz0, hz1, hz2⟩ := info_parts Try.info9
  obtain ⟨i1, hi1, hy0, hy1, hy2⟩ := info_parts Try.info32
  obtain ⟨L, hL⟩ : ∃ L, Pl.srt raw = L := ⟨_, rfl⟩
  have hok : Pl.Asc L ∧ L.length ≤ 40 := hL ▸ Pl.srtK_ok raw 40
  obtain ⟨hasc, hlen⟩ := hok
  have HS := Lib.hid (sortedAt lv A n c raw hi la ri L _ hn (hr.below (bel_box w (.cells #[.int .i64 lv, .slice A n c, .string hi, .bool la, .int .u64 ri] 25))) hm hL)
  obtain ⟨m, hmL⟩ : ∃ m, L.length = m := ⟨_, rfl⟩
  rw [hmL] at HS hlen
  have HA := Lib.hid hasc
  have HmL := Lib.hid hmL
  have Hq := Lib.hid hq
  have Hk := Lib.hid hk
  have Hu := Lib.hid hu
  have Hs := Lib.hid hs
  have Hub := Lib.hid hub
  clear hL hasc hn hr hm hmL hq hk hu hs hub
  have g1 : decide (20 < (q : Int)) = false := by simp only [decide_eq_false_iff_not]; omega
  have g2 : decide (20 < (r : Int)) = false := by simp only [decide_eq_false_iff_not]; omega
  go_enter Try.func6, Try.ntmps6
  go_wp2_with fail
  refine HS.out.mono ?_
  rintro e w1 ⟨A1, c1, rfl, hown, hb1⟩
  have hr1 := (Rd.of_own hown).below (bel_box w1 (.cells #[.int .i64 lv, .slice A1 m c1, .string hi, .bool la, .int .u64 ri] 25))
  have K1 := Blk.new w1 25 #[.int .i64 lv, .slice A1 m c1, .string hi, .bool la, .int .u64 ri]
  have hbw := (below_of hb1).alloc (Nat.le_trans (bel_box w (.cells #[.int .i64 lv, .slice A n c, .string hi, .bool la, .int .u64 ri] 25)).size hb1.size) (.cells #[.int .i64 lv, .slice A1 m c1, .string hi, .bool la, .int .u64 ri] 25)
  have HR := Lib.hid hr1
  have HK := Lib.hid K1
  have HW := Lib.hid hbw
  clear hr1 K1 hbw hown hb1 HS g1 g2
  have HKS := Lib.hid (Hk.out.below HW.out)
  go_upto_block 0 with (at_builtin; refine wpList_append_copy rfl (.const (.slice none 0 0)) (.tmp 28) 40 rfl 9 i0 _ 1 16 Try.underlying40 hi0 hz0 hz1 hz2 rfl (by decide) rfl B q d (ks.map .string) rfl HKS.out (by simp [Value.oneCell']) (by unfold maxLen; omega) (by omega) ?_; intro A2 c2 w2 hown2 hb2 hc2)
  generalize w1.alloc (.cells #[.int .i64 lv, .slice A1 m c1, .string hi, .bool la, .int .u64 ri] 25) = V at *
  generalize w1.heap.size = g at *
  have hgV := HK.out.lt
  go_cut [8, 9] (fun v _ wx => ∃ (k : Nat) (KS : List ByteArray), k ≤ r ∧ Hid (KS.length = q + k) ∧ wx.ownsRow V.heap.size 9 1 v (q + k) (KS.map .string) ∧ Below V.heap.size V wx)
  case first =>
    go_wp2_with fail
    go_loopw [8, 9] (fun v i wr => ∃ (k : Nat) (KS : List ByteArray), k ≤ r ∧ i = .int .i64 k ∧ Hid (KS.length = q + k) ∧ wr.ownsRow V.heap.size 9 1 v (q + k) (KS.map .string) ∧ Below V.heap.size V wr) (fun _ i _ => r - (intOf i).toNat)
    case atStart => exact ⟨0, ks, Nat.zero_le _, rfl, Lib.hid Hq.out, hown2, hb2⟩
    case round =>
      obtain ⟨k, KS, hkr, rfl, hKS, hown, hbel⟩ := hrel
      obtain ⟨⟨p0, p1, p2, p3, p4⟩, -⟩ := page_of (HK.out.below hbel hgV)
      by_cases hlt : k < r ∧ 0 < m
      · obtain ⟨hlt, hm0⟩ := hlt
        obtain ⟨sb, so, rfl, hsbl, hscell⟩ := Hs.out.2 (by omega)
        obtain ⟨b, off, rfl, hbl, hcell⟩ := HR.out.2 (by omega)
        have hkl : k < us.length := by rw [Hu.out]; omega
        have hbw := HW.out.trans (hbel.mono HW.out.size)
        have hs0 : wr.cell? ⟨sb, so + k, none⟩ = some (.int .u8 us[k]) := by
          rw [hbw.cell (p := ⟨sb, so + k, none⟩) hsbl, hscell k (by omega), List.getElem?_map, List.getElem?_eq_getElem hkl]; rfl
        obtain ⟨un, hun⟩ := Int.eq_ofNat_of_zero_le (Hub.out _ (List.getElem_mem hkl)).1
        have hun2 := (Hub.out _ (List.getElem_mem hkl)).2
        rw [hun] at hs0 hun2
        clear hun
        obtain ⟨j, hj⟩ : ∃ j, un % m = j := ⟨_, rfl⟩
        have hjm : j < m := by rw [← hj]; exact Nat.mod_lt _ hm0
        have htm : (un : Int).tmod (m : Int) = (j : Int) := by rw [Int.tmod_eq_emod_of_nonneg (by omega), ← hj]; rfl
        have hem : (un : Int) % (m : Int) = (j : Int) := by rw [← hj]; rfl
        have hwu : IntKind.i64.wrap (un : Int) = (un : Int) := IntWalk.i64_in _ (by omega)
        have hwj : IntKind.i64.wrap (j : Int) = (j : Int) := IntWalk.i64_in _ (by omega)
        have hx0 : (0 : Int) ≤ (j : Int) := by omega
        have hx1 : (j : Int) < (m : Int) := by omega
        clear hj
        have hxl : j < L.length := by rw [HmL.out]; exact hjm
        obtain ⟨s, hLs⟩ : ∃ s, (L[j]'hxl).1 = s := ⟨_, rfl⟩
        have hS : Hid (∀ W, Below V.heap.size V W → W.cell? ⟨g, 1, none⟩ = some (.slice (some ⟨b, off, none⟩) m c1) ∧ W.cell? ⟨sb, so + k, none⟩ = some (.int .u8 (un : Int)) ∧ W.cell? ⟨b, off + j * 2, none⟩ = some (.string s)) := fun W hW =>
          ⟨(HK.out.below hW hgV).cell 1, by rw [(HW.out.trans (hW.mono HW.out.size)).cell (p := ⟨sb, so + k, none⟩) hsbl, ← hs0, hbw.cell (p := ⟨sb, so + k, none⟩) hsbl], by rw [← hLs]; exact (cells2 HmL.out hbl hcell hW j hxl).1⟩
        obtain ⟨hc0, -⟩ := cells2 HmL.out hbl hcell hbel j hxl
        rw [hLs] at hc0
        clear hLs
        have hblr : b < wr.heap.size := by have := hbel.size; omega
        have Hown := Lib.hid hown
        have Hbel := Lib.hid hbel
        have Hscell := Lib.hid hscell
        have Hcell := Lib.hid hcell
        have Hbw := Lib.hid hbw
        clear hown hbel hscell hcell hbw p0 p2 p3 p4 hb2 hown2
        have g1 : decide (0 < m) = true := by simpa using hm0
        go_wp2_with fail
        have n1 : ((m : Int) == 0) = false := by simp; omega
        have n2 : ¬ (m : Int) = 0 := by omega
        have n3 : ¬ m = 0 := by omega
        have Hown2 := Lib.hid ((Hown.out.alloc (.cells #[.string s] 9)).drew)
        have hnews := World.news_of_block (cs := #[.string s]) (t := 9) (fr := (0, 0)) (heap_alloc_new wr (.cells #[.string s] 9))
        have Hnews := Lib.hid hnews
        have hVr := Hbel.out.size
        clear hnews
        go_region_held3 (fun W => W.cell? ⟨g, 1, none⟩ = some (.slice (some ⟨b, off, none⟩) m c1) ∧ W.cell? ⟨sb, so + k, none⟩ = some (.int .u8 (un : Int)) ∧ W.cell? ⟨b, off + j * 2, none⟩ = some (.string s)) (first | with_reducible exact hS.out _ hb3 | go_keep)
          ((refine step_append_lies _ (by rfl) _ _ _ (by rfl) V.heap.size 9 i0 _ 1 16 Try.underlying40 hi0 hz0 hz1 hz2 rfl (by omega) u8 (q + k) _ (by rfl) Hown2.out ⟨wr.heap.size, 0, none⟩ 1 1 [.string s] (by rfl) (by rfl) Hnews.out (by simp [Value.oneCell']) (by omega) (by unfold maxLen; omega) (by omega) (by simp; omega) (wr.heap.size + 1) (by simp) ?_; intro gg cap w3 hown3 hgrow hat hlt3; have hb3 := ((Hbel.out.alloc hVr (.cells #[.string s] 9)).drew).grown hgrow (by simp; omega) (fun j hj => (Hown2.out.lt j hj).1)))
        have Hown3 := Lib.hid hown3
        clear hown3 hgrow hat
        go_wp2_with fail
        refine ⟨⟨k + 1, KS ++ [s], by omega, by go_num, Lib.hid (by rw [List.length_append, hKS.out]; rfl), ?_, hb3⟩, by simp [intOf]; omega⟩
        rw [List.map_append]
        exact Hown3.out
      · have Hown := Lib.hid hown
        have Hbel := Lib.hid hbel
        clear hown hbel p0 p2 p3 p4 hb2 hown2
        have hor : ¬ k < r ∨ (k < r ∧ m = 0) := by omega
        clear hlt
        rcases hor with hlt | ⟨hlt, hm0⟩
        · go_wp2_with fail
          go_meet
          exact ⟨k, KS, hkr, hKS, Hown.out, Hbel.out⟩
        · subst hm0
          go_wp2_with fail
          go_meet
          exact ⟨k, KS, hkr, hKS, Hown.out, Hbel.out⟩
  case rest =>
    obtain ⟨k, KS, hkr, hKS, hown, hbel⟩ := hcut
    obtain ⟨qk, hqk⟩ : ∃ z, q + k = z := ⟨_, rfl⟩
    have hqkl : qk ≤ 40 := by omega
    rw [hqk] at hown hKS
    obtain ⟨AK, cK, rfl, hcK, -⟩ := own_slice hown
    have RK := Lib.hid (Rd.of_own hown)
    have K2 := Lib.hid (HK.out.below hbel hgV)
    have R2 := Lib.hid (HR.out.below hbel)
    have W2 := Lib.hid (HW.out.trans (hbel.mono HW.out.size))
    obtain ⟨⟨p0, p1, p2, p3, p4⟩, -⟩ := page_of K2.out
    clear hown hbel hb2 hown2 hkr HKS HK HR HW hqk hcK p0 p2 p3 p4
    go_wp2_with (at_builtin; refine wpList_append_copy rfl (.const (.slice none 0 0)) (.tmp 60) 22 rfl 32 i1 _ 2 24 Try.underlying22 hi1 hy0 hy1 hy2 rfl (by decide) rfl A1 m c1 (L.flatMap fS) rfl R2.out one_flat (by unfold maxLen; omega) (by omega) ?_; intro A3 c3 w3 hown3 hb3 hc3; obtain ⟨⟨q0, q1, q2, q3, q4⟩, -⟩ := page_of (K2.out.below hb3 K2.out.lt))
    clear p1
    have K3 := Lib.hid (K2.out.below hb3 K2.out.lt)
    have R3 := Lib.hid (R2.out.below hb3)
    have RK3 := Lib.hid (RK.out.below hb3)
    have RC3 := Lib.hid (Rd.of_own hown3)
    have W3 := Lib.hid (W2.out.trans (hb3.mono W2.out.size))
    obtain ⟨R, hR⟩ : ∃ R, Pl.rem KS L = R := ⟨_, rfl⟩
    have HRm := Lib.hid (removeAt lv A1 m c1 L hi la ri AK qk cK KS R w3 HmL.out R3.out (by omega) hKS.out RK3.out (by omega) hR)
    have HRf := Lib.hid (fun W h1 h2 => refRemoveAt lv A1 m c1 L hi la ri AK qk cK KS R W HmL.out h1 (by omega) hKS.out h2 (by omega) hR)
    have hrl0 : R.length ≤ m := by rw [← hR, ← HmL.out]; exact Pl.rem_len _ _
    have HRA : Hid (Pl.Asc R) := by rw [← hR]; exact HA.out.sublist (List.filter_sublist)
    have HRh : Hid (∀ x ∈ L, Pl.has (bs x.1) R = !Pl.isin KS x.1) := by rw [← hR]; exact fun x hx => Pl.rem_has hx
    obtain ⟨rl, hrl⟩ : ∃ rl, R.length = rl := ⟨_, rfl⟩
    rw [hrl] at HRm HRf hrl0
    have Hrl := Lib.hid hrl
    clear hrl hR hown3 hb3 hc3 q0 q1 q2 q3 q4 RK R2 K2 W2
    refine HRm.out.mono ?_
    rintro e w4 ⟨A4, c4, rfl, hown4, hb4⟩
    have R5 := Lib.hid ((Rd.of_own hown4).below (bel_box w4 (.cells #[.int .i64 lv, .slice A4 rl c4, .string hi, .bool la, .int .u64 ri] 25)))
    have hb5 := hb4.alloc hb4.size (.cells #[.int .i64 lv, .slice A4 rl c4, .string hi, .bool la, .int .u64 ri] 25)
    have G5 := Lib.hid (Blk.new w4 25 #[.int .i64 lv, .slice A4 rl c4, .string hi, .bool la, .int .u64 ri])
    have K5 := Lib.hid (K3.out.below hb5 K3.out.lt)
    have R3 := Lib.hid (R3.out.below hb5)
    have RK3 := Lib.hid (RK3.out.below hb5)
    have RC3 := Lib.hid (RC3.out.below hb5)
    have W5 := Lib.hid (W3.out.trans (hb5.mono W3.out.size))
    clear hown4 hb4 hb5 HRm K3 W3
    go_wp2_with fail
    generalize w4.alloc (.cells #[.int .i64 lv, .slice A4 rl c4, .string hi, .bool la, .int .u64 ri] 25) = X at *
    generalize w4.heap.size = g2 at *
    have hS : Hid (∀ W, Below X.heap.size X W → W.cell? ⟨g, 0, none⟩ = some (.int .i64 lv) ∧ W.cell? ⟨g, 1, none⟩ = some (.slice A1 m c1) ∧ W.cell? ⟨g, 2, none⟩ = some (.string hi) ∧ W.cell? ⟨g, 3, none⟩ = some (.bool la) ∧ W.cell? ⟨g, 4, none⟩ = some (.int .u64 ri) ∧ W.cell? ⟨g2, 0, none⟩ = some (.int .i64 lv) ∧ W.cell? ⟨g2, 1, none⟩ = some (.slice A4 rl c4) ∧ W.cell? ⟨g2, 2, none⟩ = some (.string hi) ∧ W.cell? ⟨g2, 3, none⟩ = some (.bool la) ∧ W.cell? ⟨g2, 4, none⟩ = some (.int .u64 ri)) := fun W hW =>
      ⟨(K5.out.below hW K5.out.lt).cell 0, (K5.out.below hW K5.out.lt).cell 1, (K5.out.below hW K5.out.lt).cell 2, (K5.out.below hW K5.out.lt).cell 3, (K5.out.below hW K5.out.lt).cell 4, (G5.out.below hW G5.out.lt).cell 0, (G5.out.below hW G5.out.lt).cell 1, (G5.out.below hW G5.out.lt).cell 2, (G5.out.below hW G5.out.lt).cell 3, (G5.out.below hW G5.out.lt).cell 4⟩
    have Hb0 : Hid (Below X.heap.size X X.drew) := bel_drew X
    go_region_held3 (fun W => W.cell? ⟨g, 0, none⟩ = some (.int .i64 lv) ∧ W.cell? ⟨g, 1, none⟩ = some (.slice A1 m c1) ∧ W.cell? ⟨g, 2, none⟩ = some (.string hi) ∧ W.cell? ⟨g, 3, none⟩ = some (.bool la) ∧ W.cell? ⟨g, 4, none⟩ = some (.int .u64 ri) ∧ W.cell? ⟨g2, 0, none⟩ = some (.int .i64 lv) ∧ W.cell? ⟨g2, 1, none⟩ = some (.slice A4 rl c4) ∧ W.cell? ⟨g2, 2, none⟩ = some (.string hi) ∧ W.cell? ⟨g2, 3, none⟩ = some (.bool la) ∧ W.cell? ⟨g2, 4, none⟩ = some (.int .u64 ri)) (first | with_reducible exact hS.out _ Hb4.out | with_reducible exact hS.out _ Hb3.out | with_reducible exact hS.out _ Hb2.out | with_reducible exact hS.out _ Hb1.out | with_reducible exact hS.out _ Hb0.out)
      (first
        | (go_at_call 9; refine (awake_any _).mono ?_; rintro e x1 ⟨rfl, hb⟩; have Hb1 := Lib.hid (Hb0.out.trans (hb.mono Hb0.out.size)); clear hb)
        | (go_at_call 23; refine (HRf.out _ (R3.out.below Hb1.out) (RK3.out.below Hb1.out)).mono ?_; rintro e x2 ⟨A6, c6, rfl, hown6, hb⟩; have Hb2 := Lib.hid (Hb1.out.trans (hb.mono Hb1.out.size)); have R6 := Lib.hid (Rd.of_own hown6); clear hb hown6)
        | (go_at_call 22; refine (refSameAt lv A4 A6 rl c4 c6 R hi la ri _ Hrl.out (R5.out.below Hb2.out) R6.out (by omega)).mono ?_; rintro e x3 ⟨rfl, hb⟩; have Hb3 := Lib.hid (Hb2.out.trans (hb.mono Hb2.out.size)); clear hb)
        | (go_at_call 24; refine (sameAt A1 A3 m c1 c3 L _ HmL.out (R3.out.below Hb3.out) (RC3.out.below Hb3.out) (by omega)).mono ?_; rintro e x4 ⟨rfl, hb⟩; have Hb4 := Lib.hid (Hb3.out.trans (hb.mono Hb3.out.size)); clear hb))
    go_wp2_with fail
    have E0 := Lib.hid (R5.out.below Hb4.out)
    have G0 := Lib.hid (G5.out.below Hb4.out G5.out.lt)
    have C0 := Lib.hid (RC3.out.below Hb4.out)
    have D0 := Lib.hid (RK3.out.below Hb4.out)
    have W0 := Lib.hid (W5.out.trans (Hb4.out.mono W5.out.size))
    clear hS Hb0 Hb1 Hb2 Hb3 Hb4 R5 G5 RC3 RK3 R3 W5 K5 R6 HRf
    go_loopw [12] (fun i wr => ∃ k2 : Nat, k2 ≤ m ∧ i = .int .i64 k2 ∧ Below x4.heap.size x4 wr) (fun i _ => m - (intOf i).toNat)
    case atStart => exact ⟨0, Nat.zero_le _, rfl, Below.refl _ _⟩
    case round =>
      obtain ⟨k2, hk2, rfl, hbel⟩ := hrel
      have Hbel := Lib.hid hbel
      clear hbel
      by_cases hlt : k2 < m
      · obtain ⟨b, off, rfl, hbl, hcell⟩ := C0.out.2 (by omega)
        have hkl : k2 < L.length := by rw [HmL.out]; exact hlt
        have Hf := Lib.hid (fun W hW => cells2 (w := x4) (wr := W) HmL.out hbl hcell hW k2 hkl)
        have Hh := Lib.hid (HRh.out _ (List.getElem_mem hkl))
        clear hcell
        generalize L[k2] = x at Hf Hh
        obtain ⟨s, v⟩ := x
        dsimp only at Hf Hh
        go_wp2_with fail
        go_loopw [13, 14] (fun x j wq => ∃ i : Nat, i ≤ qk ∧ j = .int .i64 i ∧ x = .bool (Pl.isin (KS.take i) s) ∧ Below x4.heap.size x4 wq) (fun _ j _ => qk - (intOf j).toNat)
        case atStart => exact ⟨0, Nat.zero_le _, rfl, rfl, Hbel.out⟩
        case round =>
          clear Hbel
          obtain ⟨i, hiq, rfl, rfl, hbel⟩ := hrel
          obtain ⟨hc0, hc1⟩ := Hf.out _ hbel
          have Hbel := Lib.hid hbel
          by_cases hlt2 : i < qk
          · obtain ⟨b', off', rfl, hbl', hcell'⟩ := D0.out.2 (by omega)
            have hil : i < KS.length := by rw [hKS.out]; exact hlt2
            have hs := str_at hKS.out hbl' hcell' hbel i hil
            have H2 := Lib.hid (Pl.isin_snoc (KS.take i) KS[i] s)
            rw [← List.take_succ_eq_append_getElem hil] at H2
            clear hcell' hbel
            generalize KS[i] = t at hs H2
            generalize Pl.isin (KS.take i) s = y at H2
            cases y
            · cases he : (bs t == bs s)
              all_goals
                go_wp2_with fail
                go_quiet (fail)
                go_wp2_with fail
                refine ⟨⟨i + 1, by omega, by go_num, ?_, bel_drewN Hbel.out _⟩, by simp [intOf]; omega⟩
                rw [H2.out, he]
                simp
            · go_wp2_with fail
              go_quiet (fail)
              go_wp2_with fail
              refine ⟨⟨i + 1, by omega, by go_num, ?_, bel_drewN Hbel.out _⟩, by simp [intOf]; omega⟩
              rw [H2.out]
              simp
          · obtain rfl : i = qk := by omega
            have htk : KS.take i = KS := List.take_of_length_le (by rw [hKS.out]; exact Nat.le_refl _)
            rw [htk]
            clear htk
            obtain ⟨cm, hcm⟩ : ∃ z, Pl.cnt (bs s) R = z := ⟨_, rfl⟩
            have Hcm := Lib.hid hcm
            generalize Pl.isin KS s = y at Hh
            have T := Lib.hid (fun d os => findAt lv A4 rl c4 R hi la ri s cm (!y) (Sort.grow (redrawn wr d) os) Hrl.out ((E0.out.below hbel).below (below_regrown wr d os)) (by omega) HRA.out Hcm.out Hh.out)
            have G1 := G0.out.below hbel G0.out.lt
            have t0 : ∀ d os, (Sort.grow (redrawn wr d) os).cell? ⟨g2, 0, none⟩ = some (.int .i64 lv) := fun d os => cell_regrown (G1.cell 0) d os
            have t1 : ∀ d os, (Sort.grow (redrawn wr d) os).cell? ⟨g2, 1, none⟩ = some (.slice A4 rl c4) := fun d os => cell_regrown (G1.cell 1) d os
            have t2 : ∀ d os, (Sort.grow (redrawn wr d) os).cell? ⟨g2, 2, none⟩ = some (.string hi) := fun d os => cell_regrown (G1.cell 2) d os
            have t3 : ∀ d os, (Sort.grow (redrawn wr d) os).cell? ⟨g2, 3, none⟩ = some (.bool la) := fun d os => cell_regrown (G1.cell 3) d os
            have t4 : ∀ d os, (Sort.grow (redrawn wr d) os).cell? ⟨g2, 4, none⟩ = some (.int .u64 ri) := fun d os => cell_regrown (G1.cell 4) d os
            have t5 : ∀ d os, (Sort.grow (redrawn wr d) os).cell? ⟨b, off + k2 * 2, none⟩ = some (.string s) := fun d os => cell_regrown hc0 d os
            have t6 : ∀ d os, (Sort.grow (redrawn wr d) os).cell? ⟨b, off + k2 * 2 + 1, none⟩ = some (.int .u64 v) := fun d os => cell_regrown hc1 d os
            clear hcm hbel G1 hc0 hc1
            cases y
            all_goals
              go_wp2_with fail
              refine wp_region_quiet_below (by kernel_rfl) (by kernel_rfl) ?_
              iterate 12 (go_big_quiet_step ((go_at_call 15; exact Calls.regrown_of (T.out _ _))))
              refine wpQuiet_nil ?_
              intro w6 hw6
              obtain ⟨pq, rfl⟩ := hw6
              have hb6 := Hbel.out.trans ((below_regrown wr pq.d pq.os).mono Hbel.out.size)
              have Hb6 := Lib.hid hb6
              clear hb6 t0 t1 t2 t3 t4 t5 t6
              generalize Sort.grow (redrawn wr pq.d) pq.os = w6 at *
              go_wp2_with fail
              exact ⟨⟨k2 + 1, by omega, by go_num, Hb6.out⟩, by simp [intOf]; omega⟩
      · obtain rfl : k2 = m := by omega
        go_wp2_with fail
        go_ret
        exact ⟨rfl, W0.out.trans (Hbel.out.mono W0.out.size)⟩

theorem removes_all (lv : Int) (A : Option Addr) (n c : Nat) (hi : ByteArray) (la : Bool) (ri : Int) (raw : List Pl.Slot) (B : Option Addr) (q d : Nat) (ks : List ByteArray) (S : Option Addr) (r cs : Nat) (us : List Int) (w : World)
    (hn : raw.length = n) (hr : Rd w 2 A n (raw.flatMap fS)) (hm : n ≤ maxLen) (hq : ks.length = q) (hk : Rd w 1 B q (ks.map .string)) (hqm : q ≤ maxLen) (hu : us.length = r) (hs : Rd w 1 S r (us.map (.int .u8))) (hrm : r ≤ maxLen) (hub : ∀ u ∈ us, 0 ≤ u ∧ u < 256) :
    Calls Try.prog 6 #[.agg #[.int .i64 lv, .slice A n c, .string hi, .bool la, .int .u64 ri], .slice B q d, .slice S r cs] w fun e w' => e = .returned (.bool true) ∧ Below w.heap.size w w' := by
  by_cases h : 20 < q ∨ (q ≤ 20 ∧ 20 < r)
  · exact removes_big lv A n c hi la ri B q d S r cs w hqm hrm h
  · exact removes_any lv A n c hi la ri raw B q d ks S r cs us w hn hr hm hq hk (by omega) hu hs (by omega) hub
end Go.Proofs.Ytabmokekibgjeaa
