/-
  The contract of page.Remove.
-/
import Derived.Test.YtabmokekibgjeaaIndex
import Derived.Test.YtabmokekibgjeaaSplit
namespace Go.Proofs.Ytabmokekibgjeaa
open Go.RowKit
attribute [local go_sem] Pl.bl_eq Pl.le_dec Pl.gt_dec tl bs_ex0

def Pl.rem (ks : List ByteArray) (l : List Pl.Slot) : List Pl.Slot := l.filter (fun x => !Pl.isin ks x.1)
theorem Pl.rem_snoc (ks : List ByteArray) (l : List Pl.Slot) (x : Pl.Slot) : Pl.rem ks (l ++ [x]) = if Pl.isin ks x.1 = true then Pl.rem ks l else Pl.rem ks l ++ [x] := by
  unfold Pl.rem
  rw [List.filter_append]
  by_cases h : Pl.isin ks x.1 = true <;> simp [h]
theorem Pl.rem_len (ks : List ByteArray) (l : List Pl.Slot) : (Pl.rem ks l).length ≤ l.length := List.length_filter_le _ _

set_option maxHeartbeats 4000000 in
theorem removeAt (lv : Int) (A : Option Addr) (n c : Nat) (l : List Pl.Slot) (hi : ByteArray) (la : Bool) (ri : Int) (B : Option Addr) (q d : Nat) (ks : List ByteArray) (L : List Pl.Slot) (w : World) (hn : l.length = n) (hr : Rd w 2 A n (l.flatMap fS)) (hb : n ≤ 900)
    (hq : ks.length = q) (hk : Rd w 1 B q (ks.map .string)) (hqb : q ≤ 900) (hL : Pl.rem ks l = L) :
    Calls Try.prog 21 #[.agg #[.int .i64 lv, .slice A n c, .string hi, .bool la, .int .u64 ri], .slice B q d] w fun e w' => ∃ A' c', e = .returned (.agg #[.int .i64 lv, .slice A' L.length c', .string hi, .bool la, .int .u64 ri]) ∧ w'.ownsRow w.heap.size 32 2 (.slice A' L.length c') L.length (L.flatMap fS) ∧ Below w.heap.size w w' := by
  obtain ⟨i0, hi0, hz0, hz1, hz2⟩ := info_parts Try.info32
  have Hn := Lib.hid hn
  have Hr := Lib.hid hr
  have Hq := Lib.hid hq
  have Hk := Lib.hid hk
  have HL := Lib.hid hL
  clear hn hr hq hk hL
  go_enter Try.func21, Try.ntmps21
  go_wp2_with fail
  go_loopw [5, 11] (fun o i wr => ∃ k : Nat, k ≤ n ∧ i = .int .i64 k ∧ wr.ownsRow (w.heap.size + 1 + 1) 32 2 o (Pl.rem ks (l.take k)).length ((Pl.rem ks (l.take k)).flatMap fS) ∧ Below ((w.alloc (.cells #[.int .i64 lv, .slice A n c, .string hi, .bool la, .int .u64 ri] 25)).alloc (.cells #[.int .i64 0, .slice none 0 0, .string ⟨#[]⟩, .bool false, .int .u64 0] 25)).heap.size ((w.alloc (.cells #[.int .i64 lv, .slice A n c, .string hi, .bool la, .int .u64 ri] 25)).alloc (.cells #[.int .i64 0, .slice none 0 0, .string ⟨#[]⟩, .bool false, .int .u64 0] 25)) wr) (fun _ i _ => n - (intOf i).toNat)
  case atStart => exact ⟨0, Nat.zero_le _, rfl, World.ownsRow_nil _ _ _ _, Below.refl _ _⟩
  case round =>
    obtain ⟨k, hk, rfl, hown, hbel⟩ := hrel
    have hsz := hbel.size
    have l2 : w.heap.size + 1 + 1 ≤ wr.heap.size := by simpa using hsz
    by_cases hlt : k < n
    · obtain ⟨b, off, rfl, hbl, hcell⟩ := Hr.out.2 (by omega)
      have hkl : k < l.length := by rw [Hn.out]; omega
      obtain ⟨hc0, hc1⟩ := cells2 Hn.out hbl hcell (below_of (below_of hbel)) k hkl
      have Hst := Lib.hid (Pl.rem_snoc ks (l.take k) l[k])
      rw [← List.take_succ_eq_append_getElem hkl] at Hst
      have hlen := Pl.rem_len ks (l.take k)
      rw [List.length_take] at hlen
      have Hbel := Lib.hid hbel
      have Hown := Lib.hid hown
      clear hcell hown hbel
      generalize l[k] = x at hc0 hc1 Hst
      generalize Pl.rem ks (l.take k) = R at *
      obtain ⟨s, v⟩ := x
      dsimp only at hc0 hc1
      have Hbel2 := Lib.hid (Hbel.out.alloc hsz (.cells #[.string s, .int .u64 v] 32))
      have Hown2 := Lib.hid (Hown.out.alloc (.cells #[.string s, .int .u64 v] 32))
      obtain ⟨y, hy⟩ : ∃ y, Pl.isin ks s = y := ⟨_, rfl⟩
      have HC := Lib.hid (containsAt B q d ks s y (wr.alloc (.cells #[.string s, .int .u64 v] 32)) Hq.out (Hk.out.below (below_of (below_of Hbel2.out))) (by omega) hy)
      have Hy := Lib.hid hy
      clear hy
      go_wp2_with fail
      refine HC.out.mono ?_
      rintro e w2 ⟨rfl, rfl⟩
      cases y
      · have hnews := newCells (wr.alloc (.cells #[.string s, .int .u64 v] 32)) (fS (s, v)) 32
        have e1 : (wr.alloc (.cells #[.string s, .int .u64 v] 32)).heap.size = wr.heap.size + 1 := by simp
        rw [e1] at hnews
        have Hnews := Lib.hid hnews
        have Hown3 := Lib.hid (Hown2.out.alloc (.cells #[.string s, .int .u64 v] 32))
        have Hbel3 := Lib.hid (Hbel2.out.alloc Hbel2.out.size (.cells #[.string s, .int .u64 v] 32))
        clear hnews
        go_wp2_with (at_builtin; refine wpList_append_own _ rfl (.tmp 20) (.tmp 22) 22 rfl (w.heap.size + 1 + 1) 32 i0 _ 2 24 Try.underlying22 hi0 hz0 hz1 hz2 rfl (by decide) _ R.length _ rfl Hown3.out ⟨wr.heap.size + 1, 0, none⟩ 1 1 (fS (s, v)) rfl rfl Hnews.out (one_fS (s, v)) (by unfold maxLen; omega) (by omega) (by simp; omega) ?_; intro o' w2 hown' hgrow hn2)
        have hbel3 := Hbel3.out.grown hgrow Hbel3.out.size fun j hj => by have := (Hown3.out.lt j hj).1; simpa using this
        refine ⟨⟨k + 1, by omega, by go_num, ?_, hbel3⟩, by simp [intOf]; omega⟩
        rw [Hst.out, if_neg (by rw [Hy.out]; simp), flat_snoc, List.length_append]
        exact hown'
      · go_wp2_with fail
        refine ⟨⟨k + 1, by omega, by go_num, ?_, Hbel2.out⟩, by simp [intOf]; omega⟩
        rw [Hst.out, if_pos Hy.out]
        exact Hown2.out
    · obtain rfl : k = n := by omega
      have hend : Pl.rem ks (l.take k) = L := by rw [List.take_of_length_le (by rw [Hn.out]; exact Nat.le_refl _)]; exact HL.out
      rw [hend] at hown
      obtain ⟨A1, c1, rfl, hc1', hc2'⟩ := own_slice hown
      obtain ⟨q0, q1, q2, q3, q4⟩ := box25 (below_of hbel)
      obtain ⟨z0, z1, z2, z3, z4, zf, hz⟩ := page_box hbel
      have f0 := zf 0
      have f1 := zf 1
      have f2 := zf 2
      have f3 := zf 3
      have f4 := zf 4
      have g1 := box_free (below_of hbel) 1
      have Hown := Lib.hid hown
      have Hbel := Lib.hid hbel
      clear zf hown hbel hend
      go_wp2_with fail
      refine bodyPost_ret (v := .agg #[.int .i64 lv, .slice A1 L.length c1, .string hi, .bool la, .int .u64 ri]) ?_ rfl ⟨A1, c1, rfl, ?_, ?_⟩
      · simp [results, Try.results21, go_sem, z0, z1, z2, z3, z4]
      · refine own_base ?_ (show w.heap.size ≤ w.heap.size + 1 + 1 by omega)
        refine ownsRow_setCell_below (ownsRow_setCell_below (ownsRow_setCell_below (ownsRow_setCell_below (ownsRow_setCell_below (ownsRow_setCell_below Hown.out ?_ _) ?_ _) ?_ _) ?_ _) ?_ _) ?_ _ <;> (dsimp only; omega)
      · exact ((((((below_of (below_of Hbel.out)).setCell (by simp) _).setCell (by simp) _).setCell (by simp) _).setCell (by simp) _).setCell (by simp) _).setCell (by simp) _
end Go.Proofs.Ytabmokekibgjeaa
