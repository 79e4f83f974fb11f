/-
  The contract of the reference's Remove.
-/
import Derived.Test.YtabmokekibgjeaaRemove
namespace Go.Proofs.Ytabmokekibgjeaa
open Go.RowKit
attribute [local go_sem] Pl.bl_eq Pl.le_dec Pl.gt_dec tl bs_ex0

theorem Pl.isin_snoc (ks : List ByteArray) (x s : ByteArray) : Pl.isin (ks ++ [x]) s = (Pl.isin ks s || bs x == bs s) := by
  unfold Pl.isin
  simp

set_option maxHeartbeats 8000000 in
theorem refRemoveAt (lv : Int) (A : Option Addr) (n c : Nat) (l : List Pl.Slot) (hi : ByteArray) (la : Bool) (ri : Int) (B : Option Addr) (q d : Nat) (ks : List ByteArray) (L : List Pl.Slot) (w : World) (hn : l.length = n) (hr : Rd w 2 A n (l.flatMap fS)) (hb : n ≤ 900)
    (hq : ks.length = q) (hk : Rd w 1 B q (ks.map .string)) (hqb : q ≤ 900) (hL : Pl.rem ks l = L) :
    Calls Try.prog 23 #[.agg #[.int .i64 lv, .slice A n c, .string hi, .bool la, .int .u64 ri], .slice B q d] w fun e w' => ∃ A' c', e = .returned (.agg #[.int .i64 lv, .slice A' L.length c', .string hi, .bool la, .int .u64 ri]) ∧ w'.ownsRow w.heap.size 32 2 (.slice A' L.length c') L.length (L.flatMap fS) ∧ Below w.heap.size w w' := by
  obtain ⟨i0, hi0, hz0, hz1, hz2⟩ := info_parts Try.info32
  have Hn := Lib.hid hn
  have Hr := Lib.hid hr
  have Hq := Lib.hid hq
  have Hk := Lib.hid hk
  have HL := Lib.hid hL
  clear hn hr hq hk hL
  go_enter Try.func23, Try.ntmps23
  go_wp2_with fail
  go_loopw [5, 6] (fun o i wr => ∃ k : Nat, k ≤ n ∧ i = .int .i64 k ∧ wr.ownsRow (w.heap.size + 1 + 1) 32 2 o (Pl.rem ks (l.take k)).length ((Pl.rem ks (l.take k)).flatMap fS) ∧ Below ((w.alloc (.cells #[.int .i64 lv, .slice A n c, .string hi, .bool la, .int .u64 ri] 25)).alloc (.cells #[.int .i64 0, .slice none 0 0, .string ⟨#[]⟩, .bool false, .int .u64 0] 25)).heap.size ((w.alloc (.cells #[.int .i64 lv, .slice A n c, .string hi, .bool la, .int .u64 ri] 25)).alloc (.cells #[.int .i64 0, .slice none 0 0, .string ⟨#[]⟩, .bool false, .int .u64 0] 25)) wr) (fun _ i _ => n - (intOf i).toNat)
  case atStart => exact ⟨0, Nat.zero_le _, rfl, World.ownsRow_nil _ _ _ _, Below.refl _ _⟩
  case round =>
    obtain ⟨k, hk, rfl, hown, hbel⟩ := hrel
    obtain ⟨q0, q1, q2, q3, q4⟩ := box25 (below_of hbel)
    by_cases hlt : k < n
    · obtain ⟨b, off, rfl, hbl, hcell⟩ := Hr.out.2 (by omega)
      have hkl : k < l.length := by rw [Hn.out]; omega
      have hfacts : ∀ W, Below w.heap.size w W → _ := fun W hW => cells2 Hn.out hbl hcell hW k hkl
      have Hst := Lib.hid (Pl.rem_snoc ks (l.take k) l[k])
      rw [← List.take_succ_eq_append_getElem hkl] at Hst
      have hlen := Pl.rem_len ks (l.take k)
      rw [List.length_take] at hlen
      have Hbel := Lib.hid hbel
      have Hown := Lib.hid hown
      generalize l[k] = x at hfacts Hst
      generalize Pl.rem ks (l.take k) = R at *
      obtain ⟨s, v⟩ := x
      dsimp only at hfacts
      have Hf := Lib.hid hfacts
      clear hcell hown hbel hfacts
      go_wp2_with fail
      clear q0 q1 q2 q3 q4
      go_loopw [7, 8] (fun x j wq => ∃ i : Nat, i ≤ q ∧ j = .int .i64 i ∧ x = .bool (Pl.isin (ks.take i) s) ∧ wq.ownsRow (w.heap.size + 1 + 1) 32 2 u5 R.length (R.flatMap fS) ∧ Below ((w.alloc (.cells #[.int .i64 lv, .slice (some ⟨b, off, none⟩) n c, .string hi, .bool la, .int .u64 ri] 25)).alloc (.cells #[.int .i64 0, .slice none 0 0, .string ⟨#[]⟩, .bool false, .int .u64 0] 25)).heap.size ((w.alloc (.cells #[.int .i64 lv, .slice (some ⟨b, off, none⟩) n c, .string hi, .bool la, .int .u64 ri] 25)).alloc (.cells #[.int .i64 0, .slice none 0 0, .string ⟨#[]⟩, .bool false, .int .u64 0] 25)) wq) (fun _ j _ => q - (intOf j).toNat)
      case atStart => exact ⟨0, Nat.zero_le _, rfl, rfl, Hown.out, Hbel.out⟩
      case round =>
        clear Hown Hbel
        obtain ⟨i, hiq, rfl, rfl, hown, hbel⟩ := hrel
        obtain ⟨q0, q1, q2, q3, q4⟩ := box25 (below_of hbel)
        obtain ⟨hc0, hc1⟩ := Hf.out _ (below_of (below_of hbel))
        by_cases hlt2 : i < q
        · obtain ⟨b', off', rfl, hbl', hcell'⟩ := Hk.out.2 (by omega)
          have hil : i < ks.length := by rw [Hq.out]; exact hlt2
          have hs := str_at Hq.out hbl' hcell' (below_of (below_of hbel)) i hil
          have H2 := Lib.hid (Pl.isin_snoc (ks.take i) ks[i] s)
          rw [← List.take_succ_eq_append_getElem hil] at H2
          have Hown := Lib.hid hown
          have Hbel := Lib.hid hbel
          clear hcell' hown hbel q0 q2 q3 q4
          generalize ks[i] = t at hs H2
          generalize Pl.isin (ks.take i) s = y at H2
          cases y
          · cases he : (bs t == bs s)
            all_goals
              go_wp2_with fail
              go_quiet (fail)
              go_wp2_with fail
              refine ⟨⟨i + 1, by omega, by go_num, ?_, own_drewN Hown.out _, bel_drewN Hbel.out _⟩, by simp [intOf]; omega⟩
              rw [H2.out, he]
              simp
          · go_wp2_with fail
            go_quiet (fail)
            go_wp2_with fail
            refine ⟨⟨i + 1, by omega, by go_num, ?_, own_drewN Hown.out _, bel_drewN Hbel.out _⟩, by simp [intOf]; omega⟩
            rw [H2.out]
            simp
        · obtain rfl : i = q := by omega
          have htk : ks.take i = ks := List.take_of_length_le (by rw [Hq.out]; exact Nat.le_refl _)
          rw [htk]
          clear htk
          have hsz := hbel.size
          have l2 : w.heap.size + 1 + 1 ≤ wr.heap.size := by simpa using hsz
          have Hown2 := Lib.hid (hown.alloc (.cells #[.string s, .int .u64 v] 32))
          have Hbel2 := Lib.hid (hbel.alloc hsz (.cells #[.string s, .int .u64 v] 32))
          have Hnews := Lib.hid (newCells wr (fS (s, v)) 32)
          have Hown := Lib.hid hown
          have Hbel := Lib.hid hbel
          clear hown hbel
          cases hy : Pl.isin ks s
          · have Hy := Lib.hid hy
            clear hy
            go_wp2_with (at_builtin; refine wpList_append_own _ rfl (.tmp 38) (.tmp 44) 22 rfl (w.heap.size + 1 + 1) 32 i0 _ 2 24 Try.underlying22 hi0 hz0 hz1 hz2 rfl (by decide) _ R.length _ rfl Hown2.out ⟨wr.heap.size, 0, none⟩ 1 1 (fS (s, v)) rfl rfl Hnews.out (one_fS (s, v)) (by unfold maxLen; omega) (by omega) (by simp; omega) ?_; intro o' w2 hown' hgrow hn2)
            have hbel3 := Hbel2.out.grown hgrow Hbel2.out.size fun j hj => by have := (Hown2.out.lt j hj).1; simpa using this
            refine ⟨⟨k + 1, by omega, by go_num, ?_, hbel3⟩, by simp [intOf]; omega⟩
            rw [Hst.out, if_neg (by rw [Hy.out]; simp), flat_snoc, List.length_append]
            exact hown'
          · have Hy := Lib.hid hy
            clear hy
            go_wp2_with fail
            refine ⟨⟨k + 1, by omega, by go_num, ?_, Hbel.out⟩, by simp [intOf]; omega⟩
            rw [Hst.out, if_pos Hy.out]
            exact Hown.out
    · obtain rfl : k = n := by omega
      have hend : Pl.rem ks (l.take k) = L := by rw [List.take_of_length_le (by rw [Hn.out]; exact Nat.le_refl _)]; exact HL.out
      rw [hend] at hown
      obtain ⟨A1, c1, rfl, hc1', hc2'⟩ := own_slice hown
      obtain ⟨z0, z1, z2, z3, z4, zf, hz⟩ := page_box hbel
      have f0 := zf 0
      have f1 := zf 1
      have f2 := zf 2
      have f3 := zf 3
      have f4 := zf 4
      have g1 := box_free (below_of hbel) 1
      have Hown := Lib.hid hown
      have Hbel := Lib.hid hbel
      clear zf hown hbel hend
      go_wp2_with fail
      refine bodyPost_ret (v := .agg #[.int .i64 lv, .slice A1 L.length c1, .string hi, .bool la, .int .u64 ri]) ?_ rfl ⟨A1, c1, rfl, ?_, ?_⟩
      · simp [results, Try.results23, go_sem, z0, z1, z2, z3, z4]
      · refine own_base ?_ (show w.heap.size ≤ w.heap.size + 1 + 1 by omega)
        refine ownsRow_setCell_below (ownsRow_setCell_below (ownsRow_setCell_below (ownsRow_setCell_below (ownsRow_setCell_below (ownsRow_setCell_below Hown.out ?_ _) ?_ _) ?_ _) ?_ _) ?_ _) ?_ _ <;> (dsimp only; omega)
      · exact ((((((below_of (below_of Hbel.out)).setCell (by simp) _).setCell (by simp) _).setCell (by simp) _).setCell (by simp) _).setCell (by simp) _).setCell (by simp) _
end Go.Proofs.Ytabmokekibgjeaa
