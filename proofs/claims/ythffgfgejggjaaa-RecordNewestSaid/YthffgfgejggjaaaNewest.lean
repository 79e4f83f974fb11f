/-
  RecordNewest: the law returns true on every input. (The walk.)
-/
import Derived.Test.YthffgfgejggjaaaAwake
namespace Go.Proofs.Ythffgfgejggjaaa
open Go.RowKit

/-- A block known whole. -/
def Blk (w : World) (g : Nat) (t : TypeId) (cs : Array Value) : Prop := w.heap[g]? = some (.cells cs t (0, 0))
section
variable {w w' : World} {g : Nat} {t : TypeId} {cs : Array Value}
theorem Blk.lt (h : Blk w g t cs) : g < w.heap.size := (Array.getElem?_eq_some_iff.1 h).1
theorem Blk.cell (h : Blk w g t cs) (i : Nat) : w.cell? ⟨g, i, none⟩ = cs[i]? := cell_of_row w g i cs t (0, 0) h
theorem Blk.frozen (h : Blk w g t cs) (i : Nat) : w.frozen? ⟨g, i, none⟩ = false := frozen_of_row w g i cs t h
theorem Blk.new (w : World) (t : TypeId) (cs : Array Value) : Blk (w.alloc (.cells cs t)) w.heap.size t cs := heap_alloc_new w _
theorem Blk.drewN (h : Blk w g t cs) (n : Nat) : Blk (w.drewN n) g t cs := h
theorem Blk.set (h : Blk w g t cs) (i : Nat) (u : Value) : Blk (w.setCell ⟨g, i, none⟩ u) g t (cs.setIfInBounds i u) := heap_setCell_same w g i cs t u h
theorem Blk.below {B : Nat} (h : Blk w g t cs) (hb : Below B w w') (hg : g < B) : Blk w' g t cs := (hb.block g hg).trans h
end

set_option maxHeartbeats 4000000 in
theorem newest_core (A : Option Addr) (n c : Nat) (a : Int) (p : Bool) (L : List Pl.Ver) (x : Pl.Ver) (b : Bool) (w : World)
    (hv : Hid (Calls Try.prog 9 #[.slice A n c, .bool p] w fun e w' => ∃ A' c', e = .returned (.slice A' L.length c') ∧ Rd w' 3 A' L.length (L.flatMap fV) ∧ L.length ≤ c' ∧ Below w.heap.size w w'))
    (hL : Hid (L.length ≤ 1000)) (ha : 0 ≤ a) (hx : Hid (Pl.vis L (a % 100) = x ∧ Pl.seen L (a % 100) = b)) (hbest : Hid (Pl.best L (a % 100) = x)) (hpos : Hid (b = decide (0 < x.1))) :
    Calls Try.prog 4 #[.slice A n c, .int .u64 a, .bool p] w fun e w' => e = .returned (.bool true) ∧ Below w.heap.size w w' := by
  obtain ⟨m, hm⟩ : ∃ m, L.length = m := ⟨_, rfl⟩
  have Hm := Lib.hid hm
  have hm1 : m ≤ 1000 := by rw [← hm]; exact hL.out
  rw [hm] at hv
  clear hm hL
  go_enter Try.func4, Try.ntmps4
  go_wp2_with fail
  refine hv.out.mono ?_
  rintro e w1 ⟨A1, c1, rfl, hr1, hc1, hb1⟩
  have Hr1 := Lib.hid hr1
  have Hb1 := Lib.hid hb1
  clear hr1 hb1
  go_wp2_with fail
  go_loopw [9] (fun i wr => ∃ (k : Nat) (bs : Int) (bv : ByteArray) (bd : Bool), k ≤ m ∧ i = .int .i64 k ∧ Hid (Pl.best (L.take k) (a % 100) = (bs, bv, bd)) ∧ Blk wr w1.heap.size 27 #[.int .u64 bs, .string bv, .bool bd] ∧ Below w1.heap.size w1 wr) (fun i _ => m - (intOf i).toNat)
  case atStart => exact ⟨0, _, _, _, Nat.zero_le _, rfl, rfl, Blk.new _ _ _, (Below.refl _ _).alloc (Nat.le_refl _) _⟩
  case round =>
    obtain ⟨k, bs, bv, bd, hk, rfl, hbe, hblk, hbel⟩ := hrel
    have hq0 : wr.cell? ⟨w1.heap.size, 0, none⟩ = some (.int .u64 bs) := hblk.cell 0
    have hq1 : wr.cell? ⟨w1.heap.size, 1, none⟩ = some (.string bv) := hblk.cell 1
    have hq2 : wr.cell? ⟨w1.heap.size, 2, none⟩ = some (.bool bd) := hblk.cell 2
    have hz0 := hblk.frozen 0
    have hz1 := hblk.frozen 1
    have hz2 := hblk.frozen 2
    by_cases hlt : k < m
    · obtain ⟨g, off, rfl, hgl, hcell⟩ := Hr1.out.2 (by omega)
      have hkl : k < L.length := by rw [Hm.out]; exact hlt
      obtain ⟨hc0, hc1, hc2⟩ := cells3 Hm.out hgl hcell hbel k hkl
      have hstep : Pl.best (L.take (k + 1)) (a % 100) = if L[k].1 ≤ a % 100 ∧ bs < L[k].1 then L[k] else (bs, bv, bd) := by
        rw [List.take_succ_eq_append_getElem hkl, Pl.best_snoc, hbe.out]
      have Hstep := Lib.hid hstep
      clear hstep hcell
      generalize L[k] = y at hc0 hc1 hc2 Hstep
      obtain ⟨s, v, d⟩ := y
      dsimp only at hc0 hc1 hc2 Hstep
      by_cases h1 : s ≤ a % 100
      · have g1 : decide (s ≤ a % 100) = true := decide_eq_true h1
        by_cases h2 : bs < s
        · have g2 : decide (bs < s) = true := decide_eq_true h2
          have hfin : Pl.best (L.take (k + 1)) (a % 100) = (s, v, d) := by rw [Hstep.out, if_pos ⟨h1, h2⟩]
          have hb1 := ((hblk.set 0 (.int .u64 s)).set 1 (.string v)).set 2 (.bool d)
          have Hfin := Lib.hid hfin
          have Hblk := Lib.hid hblk
          clear hfin hb1 hblk
          go_wp2_with fail
          go_quiet (fail)
          go_wp2_with fail
          refine ⟨⟨k + 1, s, v, d, by omega, by go_num, Hfin.out, ?_, ?_⟩, by simp [intOf]; omega⟩
          · exact (((Hblk.out.drewN nq).set 0 (.int .u64 s)).set 1 (.string v)).set 2 (.bool d)
          · exact (((bel_drewN hbel _).setCell (by simp) _).setCell (by simp) _).setCell (by simp) _
        · have g2 : decide (bs < s) = false := decide_eq_false h2
          have hfin : Pl.best (L.take (k + 1)) (a % 100) = (bs, bv, bd) := by rw [Hstep.out, if_neg (fun h => h2 h.2)]
          have Hfin := Lib.hid hfin
          have Hblk := Lib.hid hblk
          clear hfin hblk
          go_wp2_with fail
          go_quiet (fail)
          go_wp2_with fail
          exact ⟨⟨k + 1, bs, bv, bd, by omega, by go_num, Hfin.out, Hblk.out.drewN nq, bel_drewN hbel _⟩, by simp [intOf]; omega⟩
      · have g1 : decide (s ≤ a % 100) = false := decide_eq_false h1
        have hfin : Pl.best (L.take (k + 1)) (a % 100) = (bs, bv, bd) := by rw [Hstep.out, if_neg (fun h => h1 h.1)]
        have Hfin := Lib.hid hfin
        have Hblk := Lib.hid hblk
        clear hfin hblk
        go_wp2_with fail
        go_quiet (fail)
        go_wp2_with fail
        exact ⟨⟨k + 1, bs, bv, bd, by omega, by go_num, Hfin.out, Hblk.out.drewN nq, bel_drewN hbel _⟩, by simp [intOf]; omega⟩
    · obtain rfl : k = m := by omega
      have hxe : x = (bs, bv, bd) := by
        rw [← hbest.out, ← hbe.out, List.take_of_length_le (by rw [Hm.out]; exact Nat.le_refl _)]
      subst hxe
      have hb2 := hpos.out
      dsimp only at hb2
      subst hb2
      have Hq := Lib.hid (eql_ver)
      have Hblk := Lib.hid hblk
      have Hbel := Lib.hid hbel
      have Hr2 := Lib.hid (Hr1.out.below hbel)
      clear hblk hbel
      go_wp2_with fail
      refine (visAt A1 k c1 L _ _ (bs, bv, bd) _ Hm.out Hr2.out hm1 hx.out.1 hx.out.2).mono ?_
      rintro e w2 ⟨rfl, hb2⟩
      have Hb2 := Lib.hid hb2
      clear hb2
      go_wp2_with fail
      refine (awake_any _).mono ?_
      rintro e w3 ⟨rfl, hb3⟩
      obtain ⟨r0, r1, r2, _, _, _, _⟩ := box3 hb3
      have hall : Below wr.heap.size wr w3 := Hb2.out.trans (below_of hb3 |>.mono Hb2.out.size)
      have Hblk3 := Hblk.out.below hall Hblk.out.lt
      have t0 : w3.cell? ⟨w1.heap.size, 0, none⟩ = some (.int .u64 bs) := Hblk3.cell 0
      have t1 : w3.cell? ⟨w1.heap.size, 1, none⟩ = some (.string bv) := Hblk3.cell 1
      have t2 : w3.cell? ⟨w1.heap.size, 2, none⟩ = some (.bool bd) := Hblk3.cell 2
      have Hall := Lib.hid hall
      clear hb3 hall Hblk3 hq0 hq1 hq2 hz0 hz1 hz2
      have hq : ∀ W, (binOp .eql 27 (.agg #[.int .u64 bs, .string bv, .bool bd]) (.agg #[.int .u64 bs, .string bv, .bool bd])).run Try.prog W = .ok (.bool true) W := fun W => by rw [Hq.out]; simp
      go_wp2_with fail
      go_ret
      exact ⟨rfl, Hb1.out.trans ((Hbel.out.trans (Hall.out.mono Hbel.out.size)).mono Hb1.out.size)⟩

theorem newest_any (A : Option Addr) (n c : Nat) (raw : List Pl.Ver) (a : Int) (p : Bool) (w : World) (hn : raw.length = n) (hr : Rd w 3 A n (raw.flatMap fV)) (hm : n ≤ maxLen) (hwf : ∀ v ∈ raw, 0 ≤ v.1) (ha : 0 ≤ a) :
    Calls Try.prog 4 #[.slice A n c, .int .u64 a, .bool p] w fun e w' => e = .returned (.bool true) ∧ Below w.heap.size w w' := by
  obtain ⟨h1, h2, _⟩ := Pl.made_ok raw p
  have hv := validRd A n c raw (Pl.made raw p) p w hn hr hm hwf rfl
  have hz : (if Pl.fnd (Pl.made raw p) (a % 100) < (Pl.made raw p).length then Pl.vis (Pl.made raw p) (a % 100) else Pl.zero) = Pl.vis (Pl.made raw p) (a % 100) := by
    split
    · rfl
    · rename_i h
      unfold Pl.vis
      rw [List.getD_eq_getElem?_getD, List.getElem?_eq_none (by omega)]; rfl
  have hb := Pl.best_ok h2 (a % 100) _ (Nat.le_refl _)
  rw [List.take_length, hz] at hb
  have hp := Pl.vis_pos h2 (a % 100)
  rw [hz] at hp
  exact newest_core A n c a p _ _ _ w hv (by show (Pl.made raw p).length ≤ 1000; omega) ha ⟨rfl, rfl⟩ hb hp
end Go.Proofs.Ythffgfgejggjaaa
