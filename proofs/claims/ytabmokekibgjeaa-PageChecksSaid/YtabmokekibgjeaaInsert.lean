/-
  The contract of page.Insert.
-/
import Derived.Test.YtabmokekibgjeaaGrow
import Derived.Deep.RegionLaw
import Derived.Deep.RegionWith
import Derived.Deep.DrawnRows
namespace Go.Proofs.Ytabmokekibgjeaa
open Go.RowKit
attribute [local go_sem] Pl.bl_eq Pl.le_dec Pl.gt_dec tl bs_ex0
attribute [local go_sem ↓] Go.wp_at_zero Go.wp_at_succ

set_option maxHeartbeats 2000000 in
theorem insert_old (lv : Int) (A : Option Addr) (n c : Nat) (l : List Pl.Slot) (hi : ByteArray) (la : Bool) (ri : Int) (key : ByteArray) (r : Int) (w : World) (hn : l.length = n) (hr : Rd w 2 A n (l.flatMap fS)) (hb : n ≤ 800) (ha : Pl.Asc l) (hy : Pl.has (bs key) l = true) :
    Calls Try.prog 25 #[.agg #[.int .i64 lv, .slice A n c, .string hi, .bool la, .int .u64 ri], .string key, .int .u64 r] w fun e w' => e = .returned (.tuple #[.agg #[.int .i64 0, .slice none 0 0, .string ⟨#[]⟩, .bool false, .int .u64 0], .bool false]) ∧ Below w.heap.size w w' := by
  obtain ⟨m, hm⟩ : ∃ m, Pl.cnt (bs key) l = m := ⟨_, rfl⟩
  have hB := (bel_box w (.cells #[.int .i64 lv, .slice A n c, .string hi, .bool la, .int .u64 ri] 25)).alloc (by simp) (.cells #[.int .i64 0, .slice none 0 0, .string ⟨#[]⟩, .bool false, .int .u64 0] 25)
  have Hc := Lib.hid (findAt lv A n c l hi la ri key m true _ hn (hr.below hB) (by omega) ha hm hy)
  clear hn hr hm hy hB ha
  go_enter Try.func25, Try.ntmps25
  go_wp2_with fail
  refine Hc.out.mono ?_
  rintro e w1 ⟨rfl, hb1⟩
  obtain ⟨z0, z1, z2, z3, z4, zf, hz⟩ := page_box hb1
  have f0 := zf 0
  have f1 := zf 1
  have f2 := zf 2
  have f3 := zf 3
  have f4 := zf 4
  have Hb1 := Lib.hid hb1
  clear zf hb1
  go_wp2_with fail
  refine bodyPost_ret (v := .tuple #[.agg #[.int .i64 0, .slice none 0 0, .string ⟨#[]⟩, .bool false, .int .u64 0], .bool false]) ?_ rfl ⟨rfl, ?_⟩
  · simp [results, Try.results25, go_sem, z0, z1, z2, z3, z4]
  · exact (((((below_of (below_of Hb1.out)).setCell (by simp) _).setCell (by simp) _).setCell (by simp) _).setCell (by simp) _).setCell (by simp) _


/-- The elements from the k-th on. -/
theorem Rd.drop {α : Type} {f : α → List Value} {sz : Nat} (hf : ∀ x, (f x).length = sz) {w : World} {A : Option Addr} {n k : Nat} {l : List α} (h : Rd w sz A n (l.flatMap f)) (hk : k ≤ n) :
    Rd w sz (Option.map (fun x => x.add (k * sz)) A) (n - k) ((l.drop k).flatMap f) := by
  have e : (l.drop k).flatMap f = (l.flatMap f).drop (k * sz) := by
    have := List.take_append_drop (k * sz) (l.flatMap f)
    rw [flat_take hf] at this
    have h2 : l.flatMap f = (l.take k).flatMap f ++ (l.drop k).flatMap f := by rw [← List.flatMap_append, List.take_append_drop]
    rw [h2] at this ⊢
    exact (List.append_cancel_left this).symm
  rw [e]
  refine ⟨by rw [List.length_drop, h.1, Nat.sub_mul], fun hn => ?_⟩
  obtain ⟨b, off, rfl, hl, hc⟩ := h.2 (by omega)
  refine ⟨b, off + k * sz, by rw [Option.map_some, add_off], hl, fun j hj => ?_⟩
  have hle : k * sz + j < n * sz := by
    have : (n - k) * sz + k * sz = n * sz := by rw [← Nat.add_mul]; congr 1; omega
    omega
  rw [List.getElem?_drop, ← hc _ hle, Nat.add_assoc]
theorem ins_parts (w0 w1 : World) (A A3 : Option Addr) (n m c n3 c3 : Nat) (l l3 : List Pl.Slot) (key : ByteArray) (r : Int) (hr : Rd w0 2 A n (l.flatMap fS)) (hm : m ≤ n) (hr3 : Rd w0 2 A3 n3 (l3.flatMap fS)) (hw : Below w0.heap.size w0 w1) (N : Nat) (hN : m + 1 + n3 = N) (hn : N ≤ 900) :
    Below w1.heap.size w1 ((w1.alloc (.cells #[.string key, .int .u64 r] 32)).alloc (.cells #[.slice A m c, .slice (some ⟨w1.heap.size, 0, none⟩) 1 1, .slice A3 n3 c3] 22)).drew ∧ Calls Try.prog 34 #[.slice (some ⟨w1.heap.size + 1, 0, none⟩) 3 3] ((w1.alloc (.cells #[.string key, .int .u64 r] 32)).alloc (.cells #[.slice A m c, .slice (some ⟨w1.heap.size, 0, none⟩) 1 1, .slice A3 n3 c3] 22)).drew fun e w' => ∃ A' c', e = .returned (.slice A' N c') ∧ w'.ownsRow w1.heap.size 32 2 (.slice A' N c') N ((l.take m ++ [(key, r)] ++ l3).flatMap fS) ∧ Below w1.heap.size w1 w' := by
  subst hN
  have e1 : (w1.alloc (.cells #[.string key, .int .u64 r] 32)).heap.size = w1.heap.size + 1 := by simp
  have b1 := bel_box w1 (.cells #[.string key, .int .u64 r] 32)
  have b2 := bel_box (w1.alloc (.cells #[.string key, .int .u64 r] 32)) (.cells #[.slice A m c, .slice (some ⟨w1.heap.size, 0, none⟩) 1 1, .slice A3 n3 c3] 22)
  have b3 := b1.trans (b2.mono b1.size)
  have hB := Blk.new (w1.alloc (.cells #[.string key, .int .u64 r] 32)) 22 #[.slice A m c, .slice (some ⟨w1.heap.size, 0, none⟩) 1 1, .slice A3 n3 c3]
  rw [e1] at hB
  have hb := hw.trans (b3.mono hw.size)
  have hR1 : Rd ((w1.alloc (.cells #[.string key, .int .u64 r] 32)).alloc (.cells #[.slice A m c, .slice (some ⟨w1.heap.size, 0, none⟩) 1 1, .slice A3 n3 c3] 22)) 2 A m ((l.take m).flatMap fS) := by
    have := (hr.below hb).take hm
    rwa [flat_take fS_len] at this
  have hR2 : Rd ((w1.alloc (.cells #[.string key, .int .u64 r] 32)).alloc (.cells #[.slice A m c, .slice (some ⟨w1.heap.size, 0, none⟩) 1 1, .slice A3 n3 c3] 22)) 2 (some ⟨w1.heap.size, 0, none⟩) 1 ([((key, r) : Pl.Slot)].flatMap fS) := by
    refine ⟨rfl, fun _ => ⟨w1.heap.size, 0, rfl, by simp; omega, fun j hj => ?_⟩⟩
    rw [b2.cell (p := ⟨w1.heap.size, 0 + j, none⟩) (by simp), World.cell?_alloc_at _ _ _ _ rfl, Nat.zero_add]
    exact List.getElem?_toArray (xs := [((key, r) : Pl.Slot)].flatMap fS) (i := j)
  have hR3 := hr3.below hb
  have b4 : Below w1.heap.size w1 ((w1.alloc (.cells #[.string key, .int .u64 r] 32)).alloc (.cells #[.slice A m c, .slice (some ⟨w1.heap.size, 0, none⟩) 1 1, .slice A3 n3 c3] 22)).drew := b3.drew
  refine ⟨b4, ?_⟩
  refine (concatAt (w1.heap.size + 1) A (some ⟨w1.heap.size, 0, none⟩) A3 m 1 n3 c 1 c3 (l.take m) [(key, r)] l3 ((w1.alloc (.cells #[.string key, .int .u64 r] 32)).alloc (.cells #[.slice A m c, .slice (some ⟨w1.heap.size, 0, none⟩) 1 1, .slice A3 n3 c3] 22)).drew hB hR1.drew hR2.drew hR3.drew (by omega) hn).mono ?_
  rintro e w' ⟨A', c', rfl, hown, hb'⟩
  exact ⟨A', c', rfl, own_base hown b4.size, b4.trans (hb'.mono b4.size)⟩

set_option maxRecDepth 100000 in
set_option maxHeartbeats 8000000 in
theorem insert_new (lv : Int) (A : Option Addr) (n c : Nat) (l : List Pl.Slot) (hi : ByteArray) (la : Bool) (ri : Int) (key : ByteArray) (r : Int) (w : World) (hn : l.length = n) (hr : Rd w 2 A n (l.flatMap fS)) (hb : n ≤ 800) (hnc : n ≤ c) (hcm : c ≤ maxLen) (ha : Pl.Asc l) (hy : Pl.has (bs key) l = false) :
    Calls Try.prog 25 #[.agg #[.int .i64 lv, .slice A n c, .string hi, .bool la, .int .u64 ri], .string key, .int .u64 r] w fun e w' => ∃ A' c', e = .returned (.tuple #[.agg #[.int .i64 lv, .slice A' (n + 1) c', .string hi, .bool la, .int .u64 ri], .bool true]) ∧ w'.ownsRow w.heap.size 32 2 (.slice A' (n + 1) c') (n + 1) ((Pl.ins key r l).flatMap fS) ∧ Below w.heap.size w w' := by
  unfold maxLen at hcm
  obtain ⟨m, hm⟩ : ∃ m, Pl.cnt (bs key) l = m := ⟨_, rfl⟩
  have hmn : m ≤ n := by rw [← hm, ← hn]; exact Pl.cnt_le _ _
  have hB := (bel_box w (.cells #[.int .i64 lv, .slice A n c, .string hi, .bool la, .int .u64 ri] 25)).alloc (by simp) (.cells #[.int .i64 0, .slice none 0 0, .string ⟨#[]⟩, .bool false, .int .u64 0] 25)
  have Hc := Lib.hid (findAt lv A n c l hi la ri key m false _ hn (hr.below hB) (by omega) ha hm hy)
  have Hn := Lib.hid hn
  have Hr := Lib.hid hr
  have Hm := Lib.hid hm
  clear hn hr hm hy hB ha
  go_enter Try.func25, Try.ntmps25
  go_wp2_with fail
  refine Hc.out.mono ?_
  rintro e w1 ⟨rfl, hb1⟩
  have Z1 := (Blk.new (w.alloc (.cells #[.int .i64 lv, .slice A n c, .string hi, .bool la, .int .u64 ri] 25)) 25 #[.int .i64 0, .slice none 0 0, .string ⟨#[]⟩, .bool false, .int .u64 0]).below hb1 (by simp)
  rw [show (w.alloc (.cells #[.int .i64 lv, .slice A n c, .string hi, .bool la, .int .u64 ri] 25)).heap.size = w.heap.size + 1 by simp] at Z1
  have HZ := Lib.hid Z1
  have K1 := (Blk.new w 25 #[.int .i64 lv, .slice A n c, .string hi, .bool la, .int .u64 ri]).below ((bel_box _ (.cells #[.int .i64 0, .slice none 0 0, .string ⟨#[]⟩, .bool false, .int .u64 0] 25)).trans (hb1.mono (by simp))) (by simp)
  have W1 := Lib.hid (below_of (below_of hb1))
  have hz := hb1.size
  simp at hz
  obtain ⟨⟨p0, p1, p2, p3, p4⟩, -⟩ := page_of K1
  have HK := Lib.hid K1
  have l0 : w.heap.size < w1.heap.size := by omega
  clear hb1 K1 Hc Z1 p0 p2 p3 p4
  go_wp2_with fail
  by_cases hcm' : c = m
  · obtain rfl : n = m := by omega
    obtain rfl : c = n := by omega
    have hp := ins_parts w w1 A A c c c 0 0 l [] key r Hr.out (Nat.le_refl _) Rd.nil W1.out (c + 1) (by omega) (by omega)
    obtain ⟨hX, hC⟩ := hp
    have HC := Lib.hid hC
    have p1 := HK.out.cell 1
    have Hins := Lib.hid (show l.take c ++ [(key, r)] ++ [] = Pl.ins key r l from by
      unfold Pl.ins
      rw [Hm.out, List.drop_eq_nil_of_le (by rw [Hn.out]; exact Nat.le_refl _), List.append_nil])
    clear hX hC
    go_region_law (first | (go_simp; go_at_call 34; refine HC.out.mono ?_; rintro e w2 ⟨A4, c4, rfl, hown4, hb4⟩; have Hown4 := Lib.hid hown4; have Hb4 := Lib.hid hb4; clear hown4; obtain ⟨⟨q0, q1, q2, q3, q4⟩, g0, g1, g2, g3, g4⟩ := page_of (HK.out.below hb4 HK.out.lt); obtain ⟨⟨z0, z1, z2, z3, z4⟩, f0, f1, f2, f3, f4⟩ := page_of (HZ.out.below hb4 HZ.out.lt); clear hb4))
    all_goals
      go_wp2_with fail
      refine bodyPost_ret (v := .tuple #[.agg #[.int .i64 lv, .slice A4 (c + 1) c4, .string hi, .bool la, .int .u64 ri], .bool true]) ?_ rfl ⟨A4, c4, rfl, ?_, ?_⟩
      · simp [results, Try.results25, go_sem, z0, z1, z2, z3, z4]
      · refine own_base ?_ (show w.heap.size ≤ w1.heap.size by omega)
        rw [← Hins.out]
        refine ownsRow_setCell_below (ownsRow_setCell_below (ownsRow_setCell_below (ownsRow_setCell_below (ownsRow_setCell_below (ownsRow_setCell_below Hown4.out ?_ _) ?_ _) ?_ _) ?_ _) ?_ _) ?_ _ <;> (dsimp only; omega)
      · exact ((((((W1.out.trans (Hb4.out.mono W1.out.size)).setCell (by simp) _).setCell (by simp) _).setCell (by simp) _).setCell (by simp) _).setCell (by simp) _).setCell (by simp) _
  · have hd : Rd w 2 (Option.map (fun x => x.add (m * 2)) A) (n - m) ((l.drop m).flatMap fS) := Rd.drop fS_len Hr.out hmn
    obtain ⟨hX, hC⟩ := ins_parts w w1 A (Option.map (fun x => x.add (m * 2)) A) n m c (n - m) (c - m) l (l.drop m) key r Hr.out hmn hd W1.out (n + 1) (by omega) (by omega)
    have HC := Lib.hid hC
    have p1 := HK.out.cell 1
    have Hins := Lib.hid (show l.take m ++ [(key, r)] ++ l.drop m = Pl.ins key r l from by
      unfold Pl.ins
      rw [Hm.out]
      simp)
    have i0 : (0 : Int) ≤ (m : Int) := by omega
    have i1 : (m : Int) ≤ (c : Int) := by omega
    have i2 : (m : Int) ≤ (n : Int) := by omega
    have i3 : m ≤ c := by omega
    have hcm2 : m < c := by omega
    clear hX hC hd
    go_region_law (first | (go_simp; go_at_call 34; refine HC.out.mono ?_; rintro e w2 ⟨A4, c4, rfl, hown4, hb4⟩; have Hown4 := Lib.hid hown4; have Hb4 := Lib.hid hb4; clear hown4; obtain ⟨⟨q0, q1, q2, q3, q4⟩, g0, g1, g2, g3, g4⟩ := page_of (HK.out.below hb4 HK.out.lt); obtain ⟨⟨z0, z1, z2, z3, z4⟩, f0, f1, f2, f3, f4⟩ := page_of (HZ.out.below hb4 HZ.out.lt); clear hb4))
    all_goals
      go_wp2_with fail
      refine bodyPost_ret (v := .tuple #[.agg #[.int .i64 lv, .slice A4 (n + 1) c4, .string hi, .bool la, .int .u64 ri], .bool true]) ?_ rfl ⟨A4, c4, rfl, ?_, ?_⟩
      · simp [results, Try.results25, go_sem, z0, z1, z2, z3, z4]
      · refine own_base ?_ (show w.heap.size ≤ w1.heap.size by omega)
        rw [← Hins.out]
        refine ownsRow_setCell_below (ownsRow_setCell_below (ownsRow_setCell_below (ownsRow_setCell_below (ownsRow_setCell_below (ownsRow_setCell_below Hown4.out ?_ _) ?_ _) ?_ _) ?_ _) ?_ _) ?_ _ <;> (dsimp only; omega)
      · exact ((((((W1.out.trans (Hb4.out.mono W1.out.size)).setCell (by simp) _).setCell (by simp) _).setCell (by simp) _).setCell (by simp) _).setCell (by simp) _).setCell (by simp) _
end Go.Proofs.Ytabmokekibgjeaa
