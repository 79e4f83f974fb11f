/-
  PageChecks: the walk.
-/
import Derived.Test.YtabmokekibgjeaaValid
import Derived.Test.YtabmokekibgjeaaRefCheck
import Derived.Lib.QuietBelow
namespace Go.Proofs.Ytabmokekibgjeaa
open Go.RowKit
attribute [local go_sem] Pl.bl_eq Pl.le_dec Pl.gt_dec tl bs_ex0

/-- The slice reads as l, apart from block g. -/
def Rx (w : World) (g : Nat) (A : Option Addr) (n : Nat) (l : List Pl.Slot) : Prop :=
  l.length = n ∧ Rd w 2 A n (l.flatMap fS) ∧ (0 < n → ∀ b off, A = some ⟨b, off, none⟩ → b ≠ g)
theorem Rx.below {w w' : World} {g n : Nat} {A : Option Addr} {l : List Pl.Slot} (h : Rx w g A n l) (hb : Below w.heap.size w w') : Rx w' g A n l := ⟨h.1, h.2.1.below hb, h.2.2⟩
theorem Rx.set {w : World} {g n : Nat} {A : Option Addr} {l : List Pl.Slot} (h : Rx w g A n l) (i : Nat) (u : Value) : Rx (w.setCell ⟨g, i, none⟩ u) g A n l := by
  refine ⟨h.1, ⟨h.2.1.1, fun hn => ?_⟩, h.2.2⟩
  obtain ⟨b, off, e, hl, hc⟩ := h.2.1.2 hn
  have hbg := h.2.2 hn b off e
  refine ⟨b, off, e, by simpa using hl, fun j hj => ?_⟩
  rw [← hc j hj]
  exact World.cell?_of_block (heap_setCell_other w ⟨g, i, none⟩ b u hbg)
def CRel (w : World) (k : Nat) (f : Value) (wr : World) : Prop :=
  ∃ (fan lv : Int) (A : Option Addr) (n c : Nat) (l : List Pl.Slot) (hi : ByteArray) (la : Bool) (ri : Int), f = .int .i64 fan ∧ Blk wr w.heap.size 25 #[.int .i64 lv, .slice A n c, .string hi, .bool la, .int .u64 ri] ∧
    Rx wr w.heap.size A n l ∧ n ≤ 60 ∧ (∀ x ∈ l, 0 ≤ x.2) ∧ 0 ≤ ri ∧ (∀ x ∈ l, x.1.size ≤ 140737488351232) ∧ Below w.heap.size w wr ∧ (0 < k → Pl.vok lv l hi la ri)
theorem Pl.ok_of_vok {lv : Int} {l : List Pl.Slot} {hi : ByteArray} {la : Bool} {ri : Int} (h : Pl.vok lv l hi la ri) {fan : Int} (hf : (l.length : Int) ≤ fan) : Pl.ok lv l hi la ri fan := by
  obtain ⟨h1, ⟨h2, h3, h4, h5, h6⟩, h7, h8, h9⟩ := h
  refine Pl.ok_iff.2 ⟨⟨h1, hf, fun _ => h2⟩, h4, fun i hil => ⟨?_, fun e => h7 e i hil⟩, h8⟩
  have := h5 _ (List.getElem_mem hil)
  omega

set_option maxRecDepth 100000 in
set_option maxHeartbeats 8000000 in
theorem checks_any (lv : Int) (A : Option Addr) (n c : Nat) (hi : ByteArray) (la : Bool) (ri : Int) (raw : List Pl.Slot) (fan : Int) (w : World) (hn : raw.length = n) (hr : Rd w 2 A n (raw.flatMap fS)) (_hm : n ≤ maxLen) (href : ∀ x ∈ raw, 0 ≤ x.2) (hri : 0 ≤ ri) (hsz : ∀ x ∈ raw, x.1.size ≤ 140737488351232) :
    Calls Try.prog 3 #[.agg #[.int .i64 lv, .slice A n c, .string hi, .bool la, .int .u64 ri], .int .i64 fan] w fun e w' => e = .returned (.bool true) ∧ Below w.heap.size w w' := by
  by_cases h60 : 60 < n
  · clear hn hr href hri hsz
    go_enter Try.func3, Try.ntmps3
    go_wp2_with (go_at_call 9; refine (awake_any _).mono ?_; rintro e v6 ⟨rfl, hb⟩)
    go_ret
    exact ⟨rfl, below_of hb⟩
  · have hb0 := bel_box w (.cells #[.int .i64 lv, .slice A n c, .string hi, .bool la, .int .u64 ri] 25)
    have H0 : CRel w 0 (.int .i64 fan) (w.alloc (.cells #[.int .i64 lv, .slice A n c, .string hi, .bool la, .int .u64 ri] 25)) := by
      refine ⟨fan, lv, A, n, c, raw, hi, la, ri, rfl, Blk.new _ _ _, ⟨hn, hr.below hb0, fun h b off e => ?_⟩, by omega, href, hri, hsz, hb0, fun h => absurd h (by omega)⟩
      obtain ⟨b', off', e', hl, -⟩ := hr.2 h
      rw [e] at e'
      injection e' with e'
      injection e' with h1 h2
      omega
    have H0' := Lib.hid H0
    clear hn hr href hri hsz hb0 H0
    go_enter Try.func3, Try.ntmps3
    go_wp2_with fail
    go_loopw [1, 5] (fun f i wr => ∃ k : Nat, k ≤ 3 ∧ i = .int .i64 k ∧ CRel w k f wr) (fun _ i _ => 3 - (intOf i).toNat)
    case atStart => exact ⟨0, by omega, rfl, H0'.out⟩
    case round =>
      clear H0'
      obtain ⟨k, hk, rfl, fan', lv', A', n', c', l', hi', la', ri', rfl, hK, hR, hn60, href, hri, hsz, hW, hv⟩ := hrel
      have HK := Lib.hid hK
      have HR := Lib.hid hR
      have Href := Lib.hid href
      have Hsz := Lib.hid hsz
      have HW := Lib.hid hW
      have Hv := Lib.hid hv
      clear href hsz hW hv hR
      obtain ⟨⟨p0, p1, p2, p3, p4⟩, -⟩ := page_of hK
      clear hK
      by_cases hk3 : k < 3
      · obtain ⟨r, hr⟩ : ∃ r : Bool, r = true ↔ Pl.ok lv' l' hi' la' ri' fan' := ⟨@decide _ (Classical.propDecidable _), @decide_eq_true_iff _ (Classical.propDecidable _)⟩
        have T1 := Lib.hid (fun d os => checkAt lv' A' n' c' l' hi' la' ri' fan' r (Sort.grow (redrawn wr d) os) HR.out.1 (HR.out.2.1.below (below_regrown wr d os)) (by omega) hr)
        have T2 := Lib.hid (fun d os => refCheckAt lv' A' n' c' l' hi' la' ri' fan' r (Sort.grow (redrawn wr d) os) HR.out.1 (HR.out.2.1.below (below_regrown wr d os)) (by omega) hr)
        have t0 : ∀ d os, (Sort.grow (redrawn wr d) os).cell? ⟨w.heap.size, 0, none⟩ = some (.int .i64 lv') := fun d os => cell_regrown p0 d os
        have t1 : ∀ d os, (Sort.grow (redrawn wr d) os).cell? ⟨w.heap.size, 1, none⟩ = some (.slice A' n' c') := fun d os => cell_regrown p1 d os
        have t2 : ∀ d os, (Sort.grow (redrawn wr d) os).cell? ⟨w.heap.size, 2, none⟩ = some (.string hi') := fun d os => cell_regrown p2 d os
        have t3 : ∀ d os, (Sort.grow (redrawn wr d) os).cell? ⟨w.heap.size, 3, none⟩ = some (.bool la') := fun d os => cell_regrown p3 d os
        have t4 : ∀ d os, (Sort.grow (redrawn wr d) os).cell? ⟨w.heap.size, 4, none⟩ = some (.int .u64 ri') := fun d os => cell_regrown p4 d os
        clear p0 p1 p2 p3 p4 hr
        have hk' : k = 0 ∨ k = 1 ∨ k = 2 := by omega
        obtain ⟨q, hq⟩ : ∃ q, modOf fan' 40 = q := ⟨_, rfl⟩
        have HM := Lib.hid (fun W => modAt fan' 40 q W (by omega) (by omega) hq)
        clear hq hk3
        rcases hk' with rfl | rfl | rfl
        · cases r
          all_goals
            go_wp2_with fail
            refine wp_region_quiet_below (by kernel_rfl) (by kernel_rfl) ?_
            iterate 7 (go_big_quiet_step (first | (go_at_call 10; exact Calls.regrown_of (T1.out _ _)) | (go_at_call 11; exact Calls.regrown_of (T2.out _ _))))
            refine wpQuiet_nil ?_
            intro w6 hw6
            obtain ⟨pq, rfl⟩ := hw6
            have hb6 := below_regrown wr pq.d pq.os
            have K6 := Lib.hid (HK.out.below hb6 HK.out.lt)
            have R6 := Lib.hid (HR.out.below hb6)
            have W6 := Lib.hid (HW.out.trans (hb6.mono HW.out.size))
            clear hb6 t0 t1 t2 t3 t4 T1 T2 HK HR HW
            generalize Sort.grow (redrawn wr pq.d) pq.os = w6 at *
            obtain ⟨⟨p0, p1, p2, p3, p4⟩, -⟩ := page_of K6.out
            go_wp2_with fail
            refine (validAt lv' A' n' c' l' hi' la' ri' w6 R6.out.1 R6.out.2.1 (by unfold maxLen; omega) hri Href.out Hsz.out).mono ?_
            rintro e w7 ⟨lv2, A2, c2, n2, l2, hi2, ri2, rfl, hl2, hown2, hb7, hv2⟩
            have K7 := Lib.hid (K6.out.below hb7 K6.out.lt)
            have R7 : Hid (Rx w7 w.heap.size A2 n2 l2) := Lib.hid ⟨hl2, Rd.of_own hown2, fun h b off e => by
              have h1 := hown2.lt b (by rw [e]; rfl)
              have h2 := K6.out.lt
              omega⟩
            have W7 := Lib.hid (W6.out.trans (hb7.mono W6.out.size))
            have Hv2 := Lib.hid hv2
            have hn2 : n2 ≤ 40 := by rw [← hl2]; exact hv2.2.1.2.1
            clear hl2 hown2 hb7 hv2 p0 p1 p2 p3 p4 K6 R6 W6
            obtain ⟨⟨p0, p1, p2, p3, p4⟩, g0, g1, g2, g3, g4⟩ := page_of K7.out
            go_wp2_with (go_at_call 13; refine (HM.out _).mono ?_; rintro e w8 ⟨rfl, rfl⟩)
            refine ⟨⟨1, by omega, rfl, q, lv2, A2, n2, c2, l2, hi2, la', ri2, rfl, ((((K7.out.set 0 (.int .i64 lv2)).set 1 (.slice A2 n2 c2)).set 2 (.string hi2)).set 3 (.bool la')).set 4 (.int .u64 ri2), ((((R7.out.set 0 (.int .i64 lv2)).set 1 (.slice A2 n2 c2)).set 2 (.string hi2)).set 3 (.bool la')).set 4 (.int .u64 ri2), ?_, ?_, Hv2.out.2.2.2.2, Hv2.out.2.1.2.2.2.2, ?_, fun _ => Hv2.out⟩, by simp [intOf]⟩
            · have := Hv2.out.2.1.2.1; have := R7.out.1; omega
            · exact fun x hx => Int.le_trans (by omega) (Hv2.out.2.1.2.2.2.1 x hx)
            · exact ((((W7.out.setCell (p := ⟨w.heap.size, 0, none⟩) (Nat.le_refl _) (.int .i64 lv2)).setCell (p := ⟨w.heap.size, 1, none⟩) (Nat.le_refl _) (.slice A2 n2 c2)).setCell (p := ⟨w.heap.size, 2, none⟩) (Nat.le_refl _) (.string hi2)).setCell (p := ⟨w.heap.size, 3, none⟩) (Nat.le_refl _) (.bool la')).setCell (p := ⟨w.heap.size, 4, none⟩) (Nat.le_refl _) (.int .u64 ri2)
        · cases r
          all_goals
            go_wp2_with fail
            refine wp_region_quiet_below (by kernel_rfl) (by kernel_rfl) ?_
            iterate 7 (go_big_quiet_step (first | (go_at_call 10; exact Calls.regrown_of (T1.out _ _)) | (go_at_call 11; exact Calls.regrown_of (T2.out _ _))))
            refine wpQuiet_nil ?_
            intro w6 hw6
            obtain ⟨pq, rfl⟩ := hw6
            have hb6 := below_regrown wr pq.d pq.os
            have K6 := Lib.hid (HK.out.below hb6 HK.out.lt)
            have R6 := Lib.hid (HR.out.below hb6)
            have W6 := Lib.hid (HW.out.trans (hb6.mono HW.out.size))
            clear hb6 t0 t1 t2 t3 t4 T1 T2 HK HR HW
            generalize Sort.grow (redrawn wr pq.d) pq.os = w6 at *
            obtain ⟨⟨p0, p1, p2, p3, p4⟩, -⟩ := page_of K6.out
            go_wp2_with fail
            refine (validAt lv' A' n' c' l' hi' la' ri' w6 R6.out.1 R6.out.2.1 (by unfold maxLen; omega) hri Href.out Hsz.out).mono ?_
            rintro e w7 ⟨lv2, A2, c2, n2, l2, hi2, ri2, rfl, hl2, hown2, hb7, hv2⟩
            have K7 := Lib.hid (K6.out.below hb7 K6.out.lt)
            have R7 : Hid (Rx w7 w.heap.size A2 n2 l2) := Lib.hid ⟨hl2, Rd.of_own hown2, fun h b off e => by
              have h1 := hown2.lt b (by rw [e]; rfl)
              have h2 := K6.out.lt
              omega⟩
            have W7 := Lib.hid (W6.out.trans (hb7.mono W6.out.size))
            have Hv2 := Lib.hid hv2
            have hn2 : n2 ≤ 40 := by rw [← hl2]; exact hv2.2.1.2.1
            clear hl2 hown2 hb7 hv2 p0 p1 p2 p3 p4 K6 R6 W6
            obtain ⟨⟨p0, p1, p2, p3, p4⟩, g0, g1, g2, g3, g4⟩ := page_of K7.out
            go_wp2_with (go_at_call 13; refine (HM.out _).mono ?_; rintro e w8 ⟨rfl, rfl⟩)
            refine ⟨⟨2, by omega, rfl, (n2 : Int), lv2, A2, n2, c2, l2, hi2, la', ri2, rfl, ((((K7.out.set 0 (.int .i64 lv2)).set 1 (.slice A2 n2 c2)).set 2 (.string hi2)).set 3 (.bool la')).set 4 (.int .u64 ri2), ((((R7.out.set 0 (.int .i64 lv2)).set 1 (.slice A2 n2 c2)).set 2 (.string hi2)).set 3 (.bool la')).set 4 (.int .u64 ri2), ?_, ?_, Hv2.out.2.2.2.2, Hv2.out.2.1.2.2.2.2, ?_, fun _ => Hv2.out⟩, by simp [intOf]⟩
            · have := Hv2.out.2.1.2.1; have := R7.out.1; omega
            · exact fun x hx => Int.le_trans (by omega) (Hv2.out.2.1.2.2.2.1 x hx)
            · exact ((((W7.out.setCell (p := ⟨w.heap.size, 0, none⟩) (Nat.le_refl _) (.int .i64 lv2)).setCell (p := ⟨w.heap.size, 1, none⟩) (Nat.le_refl _) (.slice A2 n2 c2)).setCell (p := ⟨w.heap.size, 2, none⟩) (Nat.le_refl _) (.string hi2)).setCell (p := ⟨w.heap.size, 3, none⟩) (Nat.le_refl _) (.bool la')).setCell (p := ⟨w.heap.size, 4, none⟩) (Nat.le_refl _) (.int .u64 ri2)
        · cases r
          all_goals
            go_wp2_with fail
            refine wp_region_quiet_below (by kernel_rfl) (by kernel_rfl) ?_
            iterate 7 (go_big_quiet_step (first | (go_at_call 10; exact Calls.regrown_of (T1.out _ _)) | (go_at_call 11; exact Calls.regrown_of (T2.out _ _))))
            refine wpQuiet_nil ?_
            intro w6 hw6
            obtain ⟨pq, rfl⟩ := hw6
            have hb6 := below_regrown wr pq.d pq.os
            have K6 := Lib.hid (HK.out.below hb6 HK.out.lt)
            have R6 := Lib.hid (HR.out.below hb6)
            have W6 := Lib.hid (HW.out.trans (hb6.mono HW.out.size))
            clear hb6 t0 t1 t2 t3 t4 T1 T2 HK HR HW
            generalize Sort.grow (redrawn wr pq.d) pq.os = w6 at *
            obtain ⟨⟨p0, p1, p2, p3, p4⟩, -⟩ := page_of K6.out
            go_wp2_with fail
            refine (validAt lv' A' n' c' l' hi' la' ri' w6 R6.out.1 R6.out.2.1 (by unfold maxLen; omega) hri Href.out Hsz.out).mono ?_
            rintro e w7 ⟨lv2, A2, c2, n2, l2, hi2, ri2, rfl, hl2, hown2, hb7, hv2⟩
            have K7 := Lib.hid (K6.out.below hb7 K6.out.lt)
            have R7 : Hid (Rx w7 w.heap.size A2 n2 l2) := Lib.hid ⟨hl2, Rd.of_own hown2, fun h b off e => by
              have h1 := hown2.lt b (by rw [e]; rfl)
              have h2 := K6.out.lt
              omega⟩
            have W7 := Lib.hid (W6.out.trans (hb7.mono W6.out.size))
            have Hv2 := Lib.hid hv2
            have hn2 : n2 ≤ 40 := by rw [← hl2]; exact hv2.2.1.2.1
            clear hl2 hown2 hb7 hv2 p0 p1 p2 p3 p4 K6 R6 W6
            obtain ⟨⟨p0, p1, p2, p3, p4⟩, g0, g1, g2, g3, g4⟩ := page_of K7.out
            go_wp2_with (go_at_call 13; refine (HM.out _).mono ?_; rintro e w8 ⟨rfl, rfl⟩)
            refine ⟨⟨3, by omega, rfl, q, lv2, A2, n2, c2, l2, hi2, la', ri2, rfl, ((((K7.out.set 0 (.int .i64 lv2)).set 1 (.slice A2 n2 c2)).set 2 (.string hi2)).set 3 (.bool la')).set 4 (.int .u64 ri2), ((((R7.out.set 0 (.int .i64 lv2)).set 1 (.slice A2 n2 c2)).set 2 (.string hi2)).set 3 (.bool la')).set 4 (.int .u64 ri2), ?_, ?_, Hv2.out.2.2.2.2, Hv2.out.2.1.2.2.2.2, ?_, fun _ => Hv2.out⟩, by simp [intOf]⟩
            · have := Hv2.out.2.1.2.1; have := R7.out.1; omega
            · exact fun x hx => Int.le_trans (by omega) (Hv2.out.2.1.2.2.2.1 x hx)
            · exact ((((W7.out.setCell (p := ⟨w.heap.size, 0, none⟩) (Nat.le_refl _) (.int .i64 lv2)).setCell (p := ⟨w.heap.size, 1, none⟩) (Nat.le_refl _) (.slice A2 n2 c2)).setCell (p := ⟨w.heap.size, 2, none⟩) (Nat.le_refl _) (.string hi2)).setCell (p := ⟨w.heap.size, 3, none⟩) (Nat.le_refl _) (.bool la')).setCell (p := ⟨w.heap.size, 4, none⟩) (Nat.le_refl _) (.int .u64 ri2)
      · obtain rfl : k = 3 := by omega
        have hvk := Hv.out (by omega)
        have Hvk := Lib.hid hvk
        have hn0 : 0 < n' := by rw [← HR.out.1]; exact hvk.2.1.1
        clear hvk p0 p1 p2 p3 p4
        go_wp2_with fail
        refine (awake_any wr).mono ?_
        rintro e x1 ⟨rfl, hb⟩
        have HK := Lib.hid (HK.out.below hb HK.out.lt)
        have HR := Lib.hid (HR.out.below hb)
        have HW := Lib.hid (HW.out.trans (hb.mono HW.out.size))
        clear hb
        obtain ⟨⟨p0, p1, p2, p3, p4⟩, -⟩ := page_of HK.out
        go_wp2_with fail
        clear p0 p1 p2 p3 p4
        refine (checkAt lv' A' n' c' l' hi' la' ri' 60 true x1 HR.out.1 HR.out.2.1 (by omega) ⟨fun _ => Pl.ok_of_vok Hvk.out (by rw [HR.out.1]; omega), fun _ => rfl⟩).mono ?_
        rintro e x2 ⟨rfl, hb⟩
        have HK := Lib.hid (HK.out.below hb HK.out.lt)
        have HR := Lib.hid (HR.out.below hb)
        have HW := Lib.hid (HW.out.trans (hb.mono HW.out.size))
        clear hb
        obtain ⟨⟨p0, p1, p2, p3, p4⟩, -⟩ := page_of HK.out
        go_wp2_with fail
        clear p0 p1 p2 p3 p4
        refine (checkAt lv' A' n' c' l' hi' la' ri' n' true x2 HR.out.1 HR.out.2.1 (by omega) ⟨fun _ => Pl.ok_of_vok Hvk.out (by rw [HR.out.1]; omega), fun _ => rfl⟩).mono ?_
        rintro e x3 ⟨rfl, hb⟩
        have HK := Lib.hid (HK.out.below hb HK.out.lt)
        have HR := Lib.hid (HR.out.below hb)
        have HW := Lib.hid (HW.out.trans (hb.mono HW.out.size))
        clear hb
        obtain ⟨⟨p0, p1, p2, p3, p4⟩, -⟩ := page_of HK.out
        go_wp2_with fail
        clear p0 p1 p2 p3 p4
        refine (checkAt lv' A' n' c' l' hi' la' ri' ((n' : Int) - 1) false x3 HR.out.1 HR.out.2.1 (by omega) ⟨(fun h => by cases h), (fun h => by have h1 := h.1.2.1; rw [HR.out.1] at h1; omega)⟩).mono ?_
        rintro e x4 ⟨rfl, hb⟩
        have HW := Lib.hid (HW.out.trans (hb.mono HW.out.size))
        clear hb
        go_wp2_with fail
        go_ret
        exact ⟨rfl, HW.out⟩
end Go.Proofs.Ytabmokekibgjeaa
