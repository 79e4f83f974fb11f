/-
  The contract of the law's 'sorted'.
-/
import Derived.Test.YtabmokekibgjeaaRefIns
import Derived.Deep.RegionHeld3
import Derived.Deep.RegionWith
namespace Go.Proofs.Ytabmokekibgjeaa
open Go.RowKit
attribute [local go_sem] Pl.bl_eq Pl.le_dec Pl.gt_dec tl bs_ex0

theorem bel_drew (w : World) : Below w.heap.size w w.drew := by
  have h := Below.refl w.heap.size w
  exact ⟨h.os, h.tape, h.output, h.size, h.block⟩
theorem below_drew {w w1 : World} (h : Below w.drew.heap.size w.drew w1) : Below w.heap.size w w1 :=
  (bel_drew w).trans (h.mono (Nat.le_refl _))
theorem Rd.drew {w : World} {sz n : Nat} {A : Option Addr} {xs : List Value} (h : Rd w sz A n xs) : Rd w.drew sz A n xs := h
theorem page_z {w w1 : World} (h : Below (w.alloc (.cells #[.int .i64 0, .slice none 0 0, .string ⟨#[]⟩, .bool false, .int .u64 0] 25)).heap.size (w.alloc (.cells #[.int .i64 0, .slice none 0 0, .string ⟨#[]⟩, .bool false, .int .u64 0] 25)) w1) :
    (w1.cell? ⟨w.heap.size, 0, none⟩ = some (.int .i64 0) ∧ w1.cell? ⟨w.heap.size, 1, none⟩ = some (.slice none 0 0) ∧ w1.cell? ⟨w.heap.size, 2, none⟩ = some (.string ⟨#[]⟩) ∧ w1.cell? ⟨w.heap.size, 3, none⟩ = some (.bool false) ∧ w1.cell? ⟨w.heap.size, 4, none⟩ = some (.int .u64 0)) ∧
    w1.frozen? ⟨w.heap.size, 0, none⟩ = false ∧ w1.frozen? ⟨w.heap.size, 1, none⟩ = false ∧ w1.frozen? ⟨w.heap.size, 2, none⟩ = false ∧ w1.frozen? ⟨w.heap.size, 3, none⟩ = false ∧ w1.frozen? ⟨w.heap.size, 4, none⟩ = false ∧ w.heap.size < w1.heap.size := by
  have hs := h.size
  simp at hs
  exact ⟨box25 h, box_free h 0, box_free h 1, box_free h 2, box_free h 3, box_free h 4, by omega⟩
theorem own_below {w w' : World} {base sz n : Nat} {e : TypeId} {v : Value} {xs : List Value} (h : w.ownsRow base e sz v n xs) (hb : Below w.heap.size w w') : w'.ownsRow base e sz v n xs :=
  h.kept (row := none) ⟨hb.os, hb.tape, hb.output, hb.size, fun j hj _ => hb.block j hj⟩ (by cases hv : v.ownBlock <;> simp)
theorem Pl.put_new {l : List Pl.Slot} {s : ByteArray} {v : Int} (h : Pl.has (bs s) l = false) : Pl.put l (s, v) = Pl.ins s v l := by
  unfold Pl.put
  rw [if_neg (by rw [h]; simp)]
theorem Pl.put_old {l : List Pl.Slot} {s : ByteArray} {v : Int} (h : Pl.has (bs s) l = true) : Pl.put l (s, v) = l := by
  unfold Pl.put
  rw [if_pos h]
set_option maxHeartbeats 8000000 in
theorem sortedAt (lv : Int) (A : Option Addr) (n c : Nat) (raw : List Pl.Slot) (hi : ByteArray) (la : Bool) (ri : Int) (L : List Pl.Slot) (w : World) (hn : raw.length = n) (hr : Rd w 2 A n (raw.flatMap fS)) (hm : n ≤ maxLen) (hL : Pl.srt raw = L) :
    Calls Try.prog 14 #[.agg #[.int .i64 lv, .slice A n c, .string hi, .bool la, .int .u64 ri]] w fun e w' => ∃ A' c', e = .returned (.agg #[.int .i64 lv, .slice A' L.length c', .string hi, .bool la, .int .u64 ri]) ∧ w'.ownsRow w.heap.size 32 2 (.slice A' L.length c') L.length (L.flatMap fS) ∧ Below w.heap.size w w' := by
  unfold maxLen at hm
  have Hn := Lib.hid hn
  have Hr := Lib.hid hr
  clear hn hr
  have hB := (bel_box w (.cells #[.int .i64 lv, .slice A n c, .string hi, .bool la, .int .u64 ri] 25)).alloc (by simp) (.cells #[.int .i64 0, .slice none 0 0, .string ⟨#[]⟩, .bool false, .int .u64 0] 25)
  go_enter Try.func14, Try.ntmps14
  go_wp2_with fail
  go_loopw [3, 4] (fun o i wr => ∃ k : Nat, k ≤ n ∧ k ≤ 40 ∧ i = .int .i64 k ∧ wr.ownsRow (w.heap.size + 1 + 1) 32 2 o (Pl.srtK raw k).length ((Pl.srtK raw k).flatMap fS) ∧ Below ((w.alloc (.cells #[.int .i64 lv, .slice A n c, .string hi, .bool la, .int .u64 ri] 25)).alloc (.cells #[.int .i64 0, .slice none 0 0, .string ⟨#[]⟩, .bool false, .int .u64 0] 25)).heap.size ((w.alloc (.cells #[.int .i64 lv, .slice A n c, .string hi, .bool la, .int .u64 ri] 25)).alloc (.cells #[.int .i64 0, .slice none 0 0, .string ⟨#[]⟩, .bool false, .int .u64 0] 25)) wr) (fun _ i _ => n - (intOf i).toNat)
  case atStart =>
    refine ⟨0, Nat.zero_le _, Nat.zero_le _, rfl, ?_, Below.refl _ _⟩
    rw [Pl.srtK_zero]
    exact World.ownsRow_nil _ _ _ _
  case round =>
    obtain ⟨k, hk, hk40, rfl, hown, hbel⟩ := hrel
    obtain ⟨q0, q1, q2, q3, q4⟩ := box25 (below_of hbel)
    by_cases hlt : k < n ∧ k < 40
    · obtain ⟨hlt, hlt2⟩ := hlt
      obtain ⟨b, off, rfl, hbl, hcell⟩ := Hr.out.2 (by omega)
      have hkl : k < raw.length := by rw [Hn.out]; omega
      obtain ⟨hc0, hc1⟩ := cells2 Hn.out hbl hcell (below_of (below_of hbel)) k hkl
      have Hst := Lib.hid (Pl.srtK_succ raw k hkl)
      have hlen := (Pl.srtK_ok raw k).2
      have hsz := hbel.size
      obtain ⟨A1, c1, rfl, hc1', hc2'⟩ := own_slice hown
      have Hrd := Lib.hid (Rd.of_own hown)
      have Hown := Lib.hid hown
      have Hbel := Lib.hid hbel
      clear hcell hown hbel
      generalize raw[k] = x at hc0 hc1 Hst
      generalize Pl.srtK raw k = l at *
      obtain ⟨s, v⟩ := x
      dsimp only at hc0 hc1
      have l0 : w.heap.size < wr.heap.size := by simp at hsz; omega
      have l1 : b < wr.heap.size := by omega
      have l2 : w.heap.size + 1 + 1 ≤ wr.heap.size := by simpa using hsz
      have n0 : ¬ w.heap.size = wr.heap.size := by omega
      have n1 : ¬ b = wr.heap.size := by omega
      have n2 : ¬ wr.heap.size = w.heap.size := by omega
      have n3 : ¬ wr.heap.size = b := by omega
      have RA : Hid (Rd wr.drew 2 A1 l.length (l.flatMap fS)) := Rd.drew Hrd.out
      have RB : Hid (Rd (wr.alloc (.cells #[.int .i64 0, .slice none 0 0, .string ⟨#[]⟩, .bool false, .int .u64 0] 25)).drew 2 A1 l.length (l.flatMap fS)) := Rd.drew (Hrd.out.below (bel_box _ _))
      have KA : Hid (∀ w2, Below wr.drew.heap.size wr.drew w2 → Below wr.heap.size wr w2) := fun w2 h => below_drew h
      have KB : Hid (∀ w2, Below (wr.alloc (.cells #[.int .i64 0, .slice none 0 0, .string ⟨#[]⟩, .bool false, .int .u64 0] 25)).drew.heap.size (wr.alloc (.cells #[.int .i64 0, .slice none 0 0, .string ⟨#[]⟩, .bool false, .int .u64 0] 25)).drew w2 → Below wr.heap.size wr w2 ∧ (w2.cell? ⟨wr.heap.size, 0, none⟩ = some (.int .i64 0) ∧ w2.cell? ⟨wr.heap.size, 1, none⟩ = some (.slice none 0 0) ∧ w2.cell? ⟨wr.heap.size, 2, none⟩ = some (.string ⟨#[]⟩) ∧ w2.cell? ⟨wr.heap.size, 3, none⟩ = some (.bool false) ∧ w2.cell? ⟨wr.heap.size, 4, none⟩ = some (.int .u64 0)) ∧
    w2.frozen? ⟨wr.heap.size, 0, none⟩ = false ∧ w2.frozen? ⟨wr.heap.size, 1, none⟩ = false ∧ w2.frozen? ⟨wr.heap.size, 2, none⟩ = false ∧ w2.frozen? ⟨wr.heap.size, 3, none⟩ = false ∧ w2.frozen? ⟨wr.heap.size, 4, none⟩ = false ∧ wr.heap.size < w2.heap.size) := fun w2 h => ⟨below_of (below_drew h), page_z (below_drew h)⟩
      cases hy : Pl.has (bs s) l
      · have Hy := Lib.hid hy
        clear hy
        go_wp2_with fail
        go_region_held3 (fun W => W.cell? ⟨w.heap.size, 1, none⟩ = some (.slice (some ⟨b, off, none⟩) n c) ∧ W.cell? ⟨b, off + k * 2, none⟩ = some (.string s) ∧ W.cell? ⟨b, off + k * 2 + 1, none⟩ = some (.int .u64 v)) (first | with_reducible exact ⟨e1, e2, e3⟩ | go_keep)
          (first | (go_at_call 26; refine (refInsert_new 0 A1 l.length c1 l ⟨#[]⟩ false 0 s v _ rfl ?_ (by omega) Hy.out).mono ?_; (first | with_reducible exact RA.out | with_reducible exact RB.out); rintro e w2 ⟨A2, c2, rfl, hown2, hb2⟩; (first | (with_reducible have hb3 := KA.out _ hb2) | (with_reducible obtain ⟨hb3, ⟨z0, z1, z2, z3, z4⟩, f0, f1, f2, f3, f4, lz⟩ := KB.out _ hb2)); have Hown2 := Lib.hid hown2; have HB2 := Lib.hid hb2; clear hown2 hb2; have e1 := (hb3.cell (p := ⟨w.heap.size, 1, none⟩) l0).trans q1; have e2 := (hb3.cell (p := ⟨b, off + k * 2, none⟩) l1).trans hc0; have e3 := (hb3.cell (p := ⟨b, off + k * 2 + 1, none⟩) l1).trans hc1))
        · go_wp2_with fail
          have hs3 := hb3.size
          refine ⟨⟨k + 1, by omega, by omega, by go_num, ?_, ?_⟩, by simp [intOf]; omega⟩
          · rw [Hst.out, Pl.put_new Hy.out, Pl.ins_len]
            exact own_base (Hown2.out.alloc _) l2
          · exact (Hbel.out.trans (hb3.mono hsz)).alloc (Nat.le_trans hsz hs3) _
        · go_wp2_with fail
          refine ⟨⟨k + 1, by omega, by omega, by go_num, ?_, ?_⟩, by simp [intOf]; omega⟩
          · rw [Hst.out, Pl.put_new Hy.out, Pl.ins_len]
            refine own_base ?_ (show w.heap.size + 1 + 1 ≤ (wr.alloc (.cells #[.int .i64 0, .slice none 0 0, .string ⟨#[]⟩, .bool false, .int .u64 0] 25)).drew.heap.size from Nat.le_trans l2 (bel_box wr _).size)
            have lx : wr.heap.size < (wr.alloc (.cells #[.int .i64 0, .slice none 0 0, .string ⟨#[]⟩, .bool false, .int .u64 0] 25)).drew.heap.size := by simp
            exact ownsRow_setCell_below (ownsRow_setCell_below (ownsRow_setCell_below (ownsRow_setCell_below (ownsRow_setCell_below Hown2.out lx _) lx _) lx _) lx _) lx _
          · exact (((((Hbel.out.trans (hb3.mono hsz)).setCell hsz _).setCell hsz _).setCell hsz _).setCell hsz _).setCell hsz _
      · have Hy := Lib.hid hy
        clear hy
        go_wp2_with fail
        go_region_held3 (fun W => W.cell? ⟨w.heap.size, 1, none⟩ = some (.slice (some ⟨b, off, none⟩) n c) ∧ W.cell? ⟨b, off + k * 2, none⟩ = some (.string s) ∧ W.cell? ⟨b, off + k * 2 + 1, none⟩ = some (.int .u64 v)) (first | with_reducible exact ⟨e1, e2, e3⟩ | go_keep)
          (first | (go_at_call 26; refine (refInsert_old 0 A1 l.length c1 l ⟨#[]⟩ false 0 s v _ rfl ?_ (by omega) Hy.out).mono ?_; (first | with_reducible exact RA.out | with_reducible exact RB.out); rintro e w2 ⟨rfl, hb2⟩; (first | (with_reducible have hb3 := KA.out _ hb2) | (with_reducible obtain ⟨hb3, ⟨z0, z1, z2, z3, z4⟩, f0, f1, f2, f3, f4, lz⟩ := KB.out _ hb2)); have HB2 := Lib.hid hb2; clear hb2; have e1 := (hb3.cell (p := ⟨w.heap.size, 1, none⟩) l0).trans q1; have e2 := (hb3.cell (p := ⟨b, off + k * 2, none⟩) l1).trans hc0; have e3 := (hb3.cell (p := ⟨b, off + k * 2 + 1, none⟩) l1).trans hc1))
        · go_wp2_with fail
          have hs3 := hb3.size
          refine ⟨⟨k + 1, by omega, by omega, by go_num, ?_, ?_⟩, by simp [intOf]; omega⟩
          · rw [Hst.out, Pl.put_old Hy.out]
            exact (own_below Hown.out hb3).alloc _
          · exact (Hbel.out.trans (hb3.mono hsz)).alloc (Nat.le_trans hsz hs3) _
        · go_wp2_with fail
          have hz3 : Below wr.heap.size wr _ := ((((hb3.setCell (p := ⟨wr.heap.size, 0, none⟩) (Nat.le_refl _) (.int .i64 0)).setCell (p := ⟨wr.heap.size, 1, none⟩) (Nat.le_refl _) (.slice none 0 0)).setCell (p := ⟨wr.heap.size, 2, none⟩) (Nat.le_refl _) (.string ⟨#[]⟩)).setCell (p := ⟨wr.heap.size, 3, none⟩) (Nat.le_refl _) (.bool false)).setCell (p := ⟨wr.heap.size, 4, none⟩) (Nat.le_refl _) (.int .u64 0)
          refine ⟨⟨k + 1, by omega, by omega, by go_num, ?_, ?_⟩, by simp [intOf]; omega⟩
          · rw [Hst.out, Pl.put_old Hy.out]
            exact own_below Hown.out hz3
          · exact Hbel.out.trans (hz3.mono hsz)
    · have hkm : k = min raw.length 40 := by rw [Hn.out]; omega
      have hend := (Pl.srt_eq raw k hkm).trans hL
      rw [hend] at hown
      obtain ⟨A1, c1, rfl, hc1', hc2'⟩ := own_slice hown
      have hlen := (Pl.srtK_ok raw k).2
      rw [hend] at hlen
      have hsz := hbel.size
      obtain ⟨z0, z1, z2, z3, z4, zf, hz⟩ := page_box hbel
      have f0 := zf 0
      have f1 := zf 1
      have f2 := zf 2
      have f3 := zf 3
      have f4 := zf 4
      have g1 := box_free (below_of hbel) 1
      have Hown := Lib.hid hown
      have Hbel := Lib.hid hbel
      clear zf hown hbel hend
      have hor : ¬ k < n ∨ (k < n ∧ ¬ k < 40) := by omega
      clear hlt
      rcases hor with hor | ⟨h1, h2⟩
      all_goals
        go_wp2_with fail
        refine bodyPost_ret (v := .agg #[.int .i64 lv, .slice A1 L.length c1, .string hi, .bool la, .int .u64 ri]) ?_ rfl ⟨A1, c1, rfl, ?_, ?_⟩
        · simp [results, Try.results14, go_sem, z0, z1, z2, z3, z4]
        · refine own_base ?_ (show w.heap.size ≤ w.heap.size + 1 + 1 by omega)
          refine ownsRow_setCell_below (ownsRow_setCell_below (ownsRow_setCell_below (ownsRow_setCell_below (ownsRow_setCell_below (ownsRow_setCell_below Hown.out ?_ _) ?_ _) ?_ _) ?_ _) ?_ _) ?_ _ <;> (dsimp only; omega)
        · exact ((((((below_of (below_of Hbel.out)).setCell (by simp) _).setCell (by simp) _).setCell (by simp) _).setCell (by simp) _).setCell (by simp) _).setCell (by simp) _
end Go.Proofs.Ytabmokekibgjeaa
