/-
  The contract of the reference's Insert.
-/
import Derived.Test.YtabmokekibgjeaaRefs
import Derived.Below
namespace Go.Proofs.Ytabmokekibgjeaa
open Go.RowKit
attribute [local go_sem] Pl.bl_eq Pl.le_dec Pl.gt_dec tl bs_ex0

namespace Pl
def insK (key : ByteArray) (r : Int) (l : List Slot) (m k : Nat) : List Slot := l.take m ++ (key, r) :: (l.drop m).take (k - m)
theorem insK_start (key : ByteArray) (r : Int) (l : List Slot) (m : Nat) : insK key r l m m = l.take m ++ [(key, r)] := by simp [insK]
theorem insK_succ (key : ByteArray) (r : Int) (l : List Slot) (m k : Nat) (hk : k < l.length) (hm : m ≤ k) : insK key r l m (k + 1) = insK key r l m k ++ [l[k]] := by
  unfold insK
  have h : k - m < (l.drop m).length := by rw [List.length_drop]; omega
  rw [show k + 1 - m = (k - m) + 1 by omega, List.take_succ_eq_append_getElem h, List.getElem_drop]
  simp [show m + (k - m) = k by omega]
theorem insK_end (key : ByteArray) (r : Int) (l : List Slot) (m k : Nat) (hk : k = l.length) (hm : cnt (bs key) l = m) : insK key r l m k = ins key r l := by
  unfold insK ins
  rw [hm, List.take_of_length_le (l := l.drop m) (by rw [List.length_drop]; omega)]
end Pl

theorem own_some {w : World} {base sz n : Nat} {e : TypeId} {v : Value} {xs : List Value} (h : w.ownsRow base e sz v n xs) (hn : 0 < n) : ∃ g cap, v = .slice (some ⟨g, 0, none⟩) n cap ∧ base ≤ g ∧ n ≤ cap := by
  rcases h.2 with ⟨_, h0⟩ | ⟨g, cap, cur, hv, hg, _, h1, _⟩
  · omega
  · exact ⟨g, cap, hv, hg, h1⟩
theorem Try.info32 : (Try.prog.info? 32).map (fun i => (i.zero, i.size, i.bytes)) = some (some (.agg #[.string ⟨#[]⟩, .int .u64 0]), 2, 24) := by kernel_rfl
theorem one_fS (v : Pl.Slot) : ∀ u ∈ fS v, u.oneCell' = true := by
  intro u hu
  simp [fS] at hu
  rcases hu with rfl | rfl <;> rfl

/-- The result's block of a page, in the world that a call left. -/
theorem page_box {w w1 : World} {o : Obj} (h : Below ((w.alloc o).alloc (.cells #[.int .i64 0, .slice none 0 0, .string ⟨#[]⟩, .bool false, .int .u64 0] 25)).heap.size ((w.alloc o).alloc (.cells #[.int .i64 0, .slice none 0 0, .string ⟨#[]⟩, .bool false, .int .u64 0] 25)) w1) :
    w1.cell? ⟨w.heap.size + 1, 0, none⟩ = some (.int .i64 0) ∧ w1.cell? ⟨w.heap.size + 1, 1, none⟩ = some (.slice none 0 0) ∧ w1.cell? ⟨w.heap.size + 1, 2, none⟩ = some (.string ⟨#[]⟩) ∧ w1.cell? ⟨w.heap.size + 1, 3, none⟩ = some (.bool false) ∧ w1.cell? ⟨w.heap.size + 1, 4, none⟩ = some (.int .u64 0) ∧
    (∀ i, w1.frozen? ⟨w.heap.size + 1, i, none⟩ = false) ∧ w.heap.size + 1 < w1.heap.size := by
  have e : (w.alloc o).heap.size = w.heap.size + 1 := by simp
  have hc := fun i => box_cell h i
  rw [e] at hc
  have hs := h.size
  simp at hs
  refine ⟨hc 0, hc 1, hc 2, hc 3, hc 4, fun i => ?_, by omega⟩
  rw [h.frozen (p := ⟨w.heap.size + 1, i, none⟩) (by simp)]
  exact World.frozen?_alloc_at _ _ _ _ (by simp)
theorem box_free {w w1 : World} {cs : Array Value} {t : TypeId} (h : Below (w.alloc (.cells cs t)).heap.size (w.alloc (.cells cs t)) w1) (i : Nat) : w1.frozen? ⟨w.heap.size, i, none⟩ = false := by
  rw [h.frozen (p := ⟨w.heap.size, i, none⟩) (by simp)]
  exact World.frozen?_alloc_at _ _ _ _ rfl

set_option maxHeartbeats 1000000 in
theorem refInsert_old (lv : Int) (A : Option Addr) (n c : Nat) (l : List Pl.Slot) (hi : ByteArray) (la : Bool) (ri : Int) (key : ByteArray) (r : Int) (w : World) (hn : l.length = n) (hr : Rd w 2 A n (l.flatMap fS)) (hb : n ≤ 900) (hy : Pl.has (bs key) l = true) :
    Calls Try.prog 26 #[.agg #[.int .i64 lv, .slice A n c, .string hi, .bool la, .int .u64 ri], .string key, .int .u64 r] w fun e w' => e = .returned (.tuple #[.agg #[.int .i64 0, .slice none 0 0, .string ⟨#[]⟩, .bool false, .int .u64 0], .bool false]) ∧ Below w.heap.size w w' := by
  obtain ⟨m, hm⟩ : ∃ m, Pl.cnt (bs key) l = m := ⟨_, rfl⟩
  have hmn : m ≤ n := by rw [← hm, ← hn]; exact Pl.cnt_le _ _
  have hB := (bel_box w (.cells #[.int .i64 lv, .slice A n c, .string hi, .bool la, .int .u64 ri] 25)).alloc (by simp) (.cells #[.int .i64 0, .slice none 0 0, .string ⟨#[]⟩, .bool false, .int .u64 0] 25)
  have Hc := Lib.hid (refFindAt lv A n c l hi la ri key m true _ hn (hr.below hB) (by omega) hm hy)
  clear hn hr hm hy hB
  go_enter Try.func26, Try.ntmps26
  go_wp2_with fail
  refine Hc.out.mono ?_
  rintro e w1 ⟨rfl, hb1⟩
  obtain ⟨z0, z1, z2, z3, z4, zf, hz⟩ := page_box hb1
  have f0 := zf 0
  have f1 := zf 1
  have f2 := zf 2
  have f3 := zf 3
  have f4 := zf 4
  clear zf
  go_wp2_with fail
  refine bodyPost_ret (v := .tuple #[.agg #[.int .i64 0, .slice none 0 0, .string ⟨#[]⟩, .bool false, .int .u64 0], .bool false]) ?_ rfl ⟨rfl, ?_⟩
  · simp [results, Try.results26, go_sem, z0, z1, z2, z3, z4]
  · exact (((((below_of (below_of hb1)).setCell (by simp) _).setCell (by simp) _).setCell (by simp) _).setCell (by simp) _).setCell (by simp) _

set_option maxHeartbeats 4000000 in
theorem refInsert_new (lv : Int) (A : Option Addr) (n c : Nat) (l : List Pl.Slot) (hi : ByteArray) (la : Bool) (ri : Int) (key : ByteArray) (r : Int) (w : World) (hn : l.length = n) (hr : Rd w 2 A n (l.flatMap fS)) (hb : n ≤ 900) (hy : Pl.has (bs key) l = false) :
    Calls Try.prog 26 #[.agg #[.int .i64 lv, .slice A n c, .string hi, .bool la, .int .u64 ri], .string key, .int .u64 r] w fun e w' => ∃ A' c', e = .returned (.tuple #[.agg #[.int .i64 lv, .slice A' (n+1) c', .string hi, .bool la, .int .u64 ri], .bool true]) ∧ w'.ownsRow w.heap.size 32 2 (.slice A' (n + 1) c') (n + 1) ((Pl.ins key r l).flatMap fS) ∧ Below w.heap.size w w' := by
  obtain ⟨i0, hi0, hz0, hz1, hz2⟩ := info_parts Try.info32
  obtain ⟨m, hm⟩ : ∃ m, Pl.cnt (bs key) l = m := ⟨_, rfl⟩
  have hmn : m ≤ n := by rw [← hm, ← hn]; exact Pl.cnt_le _ _
  have hB := (bel_box w (.cells #[.int .i64 lv, .slice A n c, .string hi, .bool la, .int .u64 ri] 25)).alloc (by simp) (.cells #[.int .i64 0, .slice none 0 0, .string ⟨#[]⟩, .bool false, .int .u64 0] 25)
  have Hc := Lib.hid (refFindAt lv A n c l hi la ri key m false _ hn (hr.below hB) (by omega) hm hy)
  have Hn := Lib.hid hn
  have Hr := Lib.hid hr
  have Hm := Lib.hid hm
  clear hn hr hm hy hB
  go_enter Try.func26, Try.ntmps26
  go_wp2_with fail
  refine Hc.out.mono ?_
  rintro e w1 ⟨rfl, hb1⟩
  have H1 := Lib.hid hb1
  clear hb1
  go_wp2_with fail
  go_loopw [10, 11] (fun o i wr => ∃ k : Nat, k ≤ m ∧ i = .int .i64 k ∧ wr.ownsRow w1.heap.size 32 2 o k ((l.take k).flatMap fS) ∧ Below w1.heap.size w1 wr) (fun _ i _ => m - (intOf i).toNat)
  case atStart => exact ⟨0, Nat.zero_le _, rfl, by simpa using World.ownsRow_nil _ _ _ _, Below.refl _ _⟩
  case round =>
    obtain ⟨k, hk, rfl, hown, hbel⟩ := hrel
    have hb3 := H1.out.trans (hbel.mono H1.out.size)
    obtain ⟨q0, q1, q2, q3, q4⟩ := box25 (below_of hb3)
    have hsz := hbel.size
    by_cases hlt : k < m
    · obtain ⟨b, off, rfl, hbl, hcell⟩ := Hr.out.2 (by omega)
      have hkl : k < l.length := by rw [Hn.out]; omega
      obtain ⟨hc0, hc1⟩ := cells2 Hn.out hbl hcell (below_of (below_of hb3)) k hkl
      have Hst := Lib.hid (List.take_succ_eq_append_getElem hkl)
      clear hcell hb3
      generalize l[k] = x at hc0 hc1 Hst
      obtain ⟨s, v⟩ := x
      dsimp only at hc0 hc1
      have hnews := newCells wr (fS (s, v)) 32
      have hown2 := hown.alloc (.cells #[.string s, .int .u64 v] 32)
      have hbel2 := hbel.alloc hsz (.cells #[.string s, .int .u64 v] 32)
      have Hnews := Lib.hid hnews
      have Hown2 := Lib.hid hown2
      clear hnews hown2 hown
      go_wp2_with (at_builtin; refine wpList_append_own _ rfl (.tmp 26) (.tmp 32) 22 rfl w1.heap.size 32 i0 _ 2 24 Try.underlying22 hi0 hz0 hz1 hz2 rfl (by decide) _ k _ rfl Hown2.out ⟨wr.heap.size, 0, none⟩ 1 1 (fS (s, v)) rfl rfl Hnews.out (one_fS (s, v)) (by unfold maxLen; omega) (by omega) (by simp; omega) ?_; intro o' w2 hown' hgrow hn2)
      have hbel3 := hbel2.grown hgrow (by simp; omega) fun j hj => (Hown2.out.lt j hj).1
      refine ⟨⟨k + 1, by omega, by go_num, ?_, hbel3⟩, by simp [intOf]; omega⟩
      rw [Hst.out, flat_snoc]
      exact hown'
    · obtain rfl : k = m := by omega
      have hnews := newCells wr (fS (key, r)) 32
      have hown2 := hown.alloc (.cells #[.string key, .int .u64 r] 32)
      have hbel2 := hbel.alloc hsz (.cells #[.string key, .int .u64 r] 32)
      have Hnews := Lib.hid hnews
      have Hown2 := Lib.hid hown2
      clear hnews hown2 hown
      go_wp2_with (at_builtin; refine wpList_append_own _ rfl (.tmp 34) (.tmp 38) 22 rfl w1.heap.size 32 i0 _ 2 24 Try.underlying22 hi0 hz0 hz1 hz2 rfl (by decide) _ k _ rfl Hown2.out ⟨wr.heap.size, 0, none⟩ 1 1 (fS (key, r)) rfl rfl Hnews.out (one_fS (key, r)) (by unfold maxLen; omega) (by omega) (by simp; omega) ?_; intro o' w2 hown' hgrow hn2)
      have hbel3 := hbel2.grown hgrow (by simp; omega) fun j hj => (Hown2.out.lt j hj).1
      clear hn2 hgrow hbel2 hbel hb3 q0 q1 q2 q3 q4
      go_loopw [10, 12] (fun o i wq => ∃ j : Nat, k ≤ j ∧ j ≤ n ∧ i = .int .i64 j ∧ wq.ownsRow w1.heap.size 32 2 o (j + 1) ((Pl.insK key r l k j).flatMap fS) ∧ Below w1.heap.size w1 wq) (fun _ i _ => n - (intOf i).toNat)
      case atStart =>
        refine ⟨k, Nat.le_refl _, hmn, rfl, ?_, hbel3⟩
        rw [Pl.insK_start, flat_snoc]
        exact hown'
      case round =>
        obtain ⟨j, hkj, hj, rfl, hown, hbel⟩ := hrel
        have hb3 := H1.out.trans (hbel.mono H1.out.size)
        obtain ⟨q0, q1, q2, q3, q4⟩ := box25 (below_of hb3)
        have hsz := hbel.size
        by_cases hlt2 : j < n
        · obtain ⟨b, off, rfl, hbl, hcell⟩ := Hr.out.2 (by omega)
          have hkl : j < l.length := by rw [Hn.out]; omega
          obtain ⟨hc0, hc1⟩ := cells2 Hn.out hbl hcell (below_of (below_of hb3)) j hkl
          have Hst := Lib.hid (Pl.insK_succ key r l k j hkl hkj)
          clear hcell hb3
          generalize l[j] = x at hc0 hc1 Hst
          obtain ⟨s, v⟩ := x
          dsimp only at hc0 hc1
          have hnews := newCells wr (fS (s, v)) 32
          have hown2 := hown.alloc (.cells #[.string s, .int .u64 v] 32)
          have hbel2 := hbel.alloc hsz (.cells #[.string s, .int .u64 v] 32)
          have Hnews := Lib.hid hnews
          have Hown2 := Lib.hid hown2
          clear hnews hown2 hown
          go_wp2_with (at_builtin; refine wpList_append_own _ rfl (.tmp 48) (.tmp 54) 22 rfl w1.heap.size 32 i0 _ 2 24 Try.underlying22 hi0 hz0 hz1 hz2 rfl (by decide) _ (j + 1) _ rfl Hown2.out ⟨wr.heap.size, 0, none⟩ 1 1 (fS (s, v)) rfl rfl Hnews.out (one_fS (s, v)) (by unfold maxLen; omega) (by omega) (by simp; omega) ?_; intro o' w2 hown' hgrow hn2)
          have hbel3 := hbel2.grown hgrow (by simp; omega) fun j hj => (Hown2.out.lt j hj).1
          refine ⟨⟨j + 1, by omega, by omega, by go_num, ?_, hbel3⟩, by simp [intOf]; omega⟩
          rw [Hst.out, flat_snoc]
          exact hown'
        · obtain rfl : j = n := by omega
          have hend := Pl.insK_end key r l k j Hn.out.symm Hm.out
          rw [hend] at hown
          obtain ⟨A', c', rfl, hc1, hc2⟩ := own_slice hown
          obtain ⟨z0, z1, z2, z3, z4, zf, hz⟩ := page_box hb3
          have f0 := zf 0
          have f1 := zf 1
          have f2 := zf 2
          have f3 := zf 3
          have f4 := zf 4
          have g1 := box_free (below_of hb3) 1
          have hs1 := H1.out.size
          simp at hs1
          have Hown := Lib.hid hown
          have Hb3 := Lib.hid hb3
          have hs2 : w.heap.size < w1.heap.size := by omega
          clear zf hend hown hbel hb3
          go_wp2_with fail
          refine bodyPost_ret (v := .tuple #[.agg #[.int .i64 lv, .slice A' (j+1) c', .string hi, .bool la, .int .u64 ri], .bool true]) ?_ rfl ⟨A', c', rfl, ?_, ?_⟩
          · simp [results, Try.results26, go_sem, z0, z1, z2, z3, z4]
          · refine own_base ?_ (show w.heap.size ≤ w1.heap.size by omega)
            refine ownsRow_setCell_below (ownsRow_setCell_below (ownsRow_setCell_below (ownsRow_setCell_below (ownsRow_setCell_below (ownsRow_setCell_below Hown.out ?_ _) ?_ _) ?_ _) ?_ _) ?_ _) ?_ _ <;> (dsimp only; omega)
          · exact ((((((below_of (below_of Hb3.out)).setCell (by simp) _).setCell (by simp) _).setCell (by simp) _).setCell (by simp) _).setCell (by simp) _).setCell (by simp) _
end Go.Proofs.Ytabmokekibgjeaa
