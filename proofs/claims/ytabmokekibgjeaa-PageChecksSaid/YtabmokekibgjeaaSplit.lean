/-
  Blocks; keys.Separator and slices.Clone as the chapter's example meets them; the example's Split.
-/
import Derived.Test.YtabmokekibgjeaaRefIns
import Derived.Test.YtabmokekibgjeaaSorted
import Derived.Deep.RegionHeld3
import Derived.Laws.Cover3
namespace Go.Proofs.Ytabmokekibgjeaa
open Go.RowKit
attribute [local go_sem] Pl.bl_eq Pl.le_dec Pl.gt_dec tl bs_ex0

/-- Block g holds the cells cs, and may be written. -/
def Blk (w : World) (g : Nat) (t : TypeId) (cs : Array Value) : Prop := w.heap[g]? = some (.cells cs t (0, 0))
section
variable {w w' : World} {g : Nat} {t : TypeId} {cs : Array Value}
theorem Blk.lt (h : Blk w g t cs) : g < w.heap.size := (Array.getElem?_eq_some_iff.1 h).1
theorem Blk.cell (h : Blk w g t cs) (i : Nat) : w.cell? ⟨g, i, none⟩ = cs[i]? := cell_of_row w g i cs t (0, 0) h
theorem Blk.frozen (h : Blk w g t cs) (i : Nat) : w.frozen? ⟨g, i, none⟩ = false := frozen_of_row w g i cs t h
theorem Blk.new (w : World) (t : TypeId) (cs : Array Value) : Blk (w.alloc (.cells cs t)) w.heap.size t cs := heap_alloc_new w _
theorem Blk.set (h : Blk w g t cs) (i : Nat) (u : Value) : Blk (w.setCell ⟨g, i, none⟩ u) g t (cs.setIfInBounds i u) := heap_setCell_same w g i cs t u h
theorem Blk.far (h : Blk w g t cs) {a : Addr} (ha : g ≠ a.block) (u : Value) : Blk (w.setCell a u) g t cs := (Below.heap_setCell w a u g ha).trans h
theorem Blk.below {B : Nat} (h : Blk w g t cs) (hb : Below B w w') (hg : g < B) : Blk w' g t cs := (hb.block g hg).trans h
end
theorem page_of {w : World} {g : Nat} {a b c d e : Value} (h : Blk w g 25 #[a, b, c, d, e]) :
    (w.cell? ⟨g, 0, none⟩ = some a ∧ w.cell? ⟨g, 1, none⟩ = some b ∧ w.cell? ⟨g, 2, none⟩ = some c ∧ w.cell? ⟨g, 3, none⟩ = some d ∧ w.cell? ⟨g, 4, none⟩ = some e) ∧
    w.frozen? ⟨g, 0, none⟩ = false ∧ w.frozen? ⟨g, 1, none⟩ = false ∧ w.frozen? ⟨g, 2, none⟩ = false ∧ w.frozen? ⟨g, 3, none⟩ = false ∧ w.frozen? ⟨g, 4, none⟩ = false :=
  ⟨⟨h.cell 0, h.cell 1, h.cell 2, h.cell 3, h.cell 4⟩, h.frozen 0, h.frozen 1, h.frozen 2, h.frozen 3, h.frozen 4⟩

namespace Pl
/-- The first prefix of b, from length n on, that is greater than a. -/
def sepFrom (a b : List UInt8) : (f n : Nat) → List UInt8
  | 0, _ => []
  | f + 1, n => if a < b.take n then b.take n else sepFrom a b f (n + 1)
def sep (a b : List UInt8) : List UInt8 := sepFrom a b b.length 1
theorem sepFrom_hit {a b : List UInt8} {f n : Nat} (h : a < b.take n) : sepFrom a b (f + 1) n = b.take n := by simp [sepFrom, h]
theorem sepFrom_miss {a b : List UInt8} {f n : Nat} (h : ¬ a < b.take n) : sepFrom a b (f + 1) n = sepFrom a b f (n + 1) := by simp [sepFrom, h]
end Pl

set_option maxHeartbeats 400000 in
theorem separator_any (a b : ByteArray) (w : World) (hb : b.size ≤ 1000) :
    Calls Try.prog 35 #[.string a, .string b] w fun e w' => e = .returned (.string ⟨(Pl.sep (bs a) (bs b)).toArray⟩) ∧ w = w' := by
  go_enter Try.func35, Try.ntmps35
  go_wp2
  go_loop [5] (fun n => ∃ k : Nat, k ≤ b.size ∧ n = .int .i64 ((k : Int) + 1) ∧ Hid (Pl.sep (bs a) (bs b) = Pl.sepFrom (bs a) (bs b) (b.size - k) (k + 1))) (fun n => b.size + 1 - (intOf n).toNat)
  case atStart => exact ⟨0, Nat.zero_le _, rfl, rfl⟩
  case round =>
    obtain ⟨k, hk, rfl, H⟩ := hrel
    by_cases hlt : k < b.size
    · go_wp2
      · have h : (bs a) < (bs b).take (k + 1) := by assumption
        go_ret
        refine ⟨?_, rfl⟩
        rw [H.out, show b.size - k = (b.size - k - 1) + 1 from by omega, Pl.sepFrom_hit h]
        show Ending.returned (Value.string (b.extract 0 (k + 1))) = _
        rw [ex0]
      · have h : ¬ (bs a) < (bs b).take (k + 1) := by assumption
        refine ⟨⟨k + 1, by omega, by go_num, ?_⟩, by simp [intOf]; omega⟩
        rw [H.out, show b.size - k = (b.size - (k + 1)) + 1 from by omega, Pl.sepFrom_miss h]
        rfl
    · obtain rfl : k = b.size := by omega
      go_wp2
      go_ret
      refine ⟨?_, rfl⟩
      rw [H.out, Nat.sub_self]; rfl
theorem sepAt (a b s : ByteArray) (w : World) (hb : b.size ≤ 1000) (h : Pl.sep (bs a) (bs b) = bs s) : Calls Try.prog 35 #[.string a, .string b] w fun e w' => e = .returned (.string s) ∧ w = w' := by
  have := separator_any a b w hb
  rw [h] at this
  exact this

theorem not_nil (ad : Addr) (m c : Nat) : ∀ W, (binOp .eql 22 (.slice (some ad) m c) (.slice none 0 0)).run Try.prog W = .ok (.bool false) W := by
  intro W
  simp [binOp, run_equal_slice_nil W 22 32 (some ad) m c Try.underlying22, go_sem]
set_option maxHeartbeats 1000000 in
theorem cloneAt (ad : Addr) (m c : Nat) (xs : List Value) (w : World) (hr : Rd w 2 (some ad) m xs) (h1 : ∀ u ∈ xs, u.oneCell' = true) (hm : m ≤ 1000) :
    Calls Try.prog 36 #[.slice (some ad) m c] w fun e w' => (∃ A' c', e = .returned (.slice A' m c')) ∧ Below w.heap.size w w' := by
  obtain ⟨i0, hi0, hz0, hz1, hz2⟩ := info_parts Try.info32
  have hown := World.ownsRow_lit (base := w.heap.size) (e := 32) (size := 2) w #[] 0 (Nat.le_refl _) (by unfold maxLen; omega) rfl
  have hr1 := hr.below (bel_box w (.cells #[] 32))
  have Hown := Lib.hid hown
  have Hr := Lib.hid hr1
  have H1 := Lib.hid h1
  clear hown hr hr1 h1
  have he := not_nil ad m c
  go_enter Try.func36, Try.ntmps36
  go_wp2_with (at_builtin; refine wpList_append_own _ rfl (.tmp 5) (.tmp 6) 22 rfl w.heap.size 32 i0 _ 2 24 Try.underlying22 hi0 hz0 hz1 hz2 rfl (by decide) _ 0 _ rfl Hown.out ad m c xs rfl Hr.out.1 Hr.out.news H1.out (by unfold maxLen; omega) (by omega) (by simp) ?_; intro o' w2 hown' hgrow hn2)
  rw [Nat.zero_add] at hown'
  obtain ⟨A', c', rfl, _, _⟩ := own_slice hown'
  go_ret
  exact ⟨⟨A', c', rfl⟩, (bel_box w _).grown hgrow (by simp) fun j hj => (Hown.out.lt j hj).1⟩

theorem five (w : World) (P Z : Array Value) :
    let W := (((((w.alloc (.cells P 25)).alloc (.cells Z 25)).alloc (.cells Z 25)).alloc (.cells P 25)).alloc (.cells P 25)).drew
    Blk W w.heap.size 25 P ∧ Blk W (w.heap.size + 1) 25 Z ∧ Blk W (w.heap.size + 1 + 1) 25 Z ∧ Blk W (w.heap.size + 1 + 1 + 1) 25 P ∧ Blk W (w.heap.size + 1 + 1 + 1 + 1) 25 P ∧ Below w.heap.size w W ∧ W.heap.size = w.heap.size + 1 + 1 + 1 + 1 + 1 := by
  have s1 : (w.alloc (.cells P 25)).heap.size = w.heap.size + 1 := by simp
  have s2 : ((w.alloc (.cells P 25)).alloc (.cells Z 25)).heap.size = w.heap.size + 1 + 1 := by simp
  have s3 : (((w.alloc (.cells P 25)).alloc (.cells Z 25)).alloc (.cells Z 25)).heap.size = w.heap.size + 1 + 1 + 1 := by simp
  have s4 : ((((w.alloc (.cells P 25)).alloc (.cells Z 25)).alloc (.cells Z 25)).alloc (.cells P 25)).heap.size = w.heap.size + 1 + 1 + 1 + 1 := by simp
  have b0 := Blk.new w 25 P
  have b1 := Blk.new (w.alloc (.cells P 25)) 25 Z
  have b2 := Blk.new ((w.alloc (.cells P 25)).alloc (.cells Z 25)) 25 Z
  have b3 := Blk.new (((w.alloc (.cells P 25)).alloc (.cells Z 25)).alloc (.cells Z 25)) 25 P
  have b4 := Blk.new ((((w.alloc (.cells P 25)).alloc (.cells Z 25)).alloc (.cells Z 25)).alloc (.cells P 25)) 25 P
  rw [s1] at b1
  rw [s2] at b2
  rw [s3] at b3
  rw [s4] at b4
  have up : ∀ {w : World} {g : Nat} {cs : Array Value} (o : Obj), Blk w g 25 cs → Blk (w.alloc o) g 25 cs := fun o h => h.below (bel_box _ o) h.lt
  refine ⟨up _ (up _ (up _ (up _ b0))), up _ (up _ (up _ b1)), up _ (up _ b2), up _ b3, b4, ?_, by simp⟩
  exact (below_of (below_of (below_of (below_of (bel_box _ _))))).drew

def four : List Pl.Slot := [(⟨#[97]⟩, 1), (⟨#[99, 97, 114, 112]⟩, 2), (⟨#[99, 97, 114, 116]⟩, 3), (⟨#[100]⟩, 4)]
theorem four_one : ∀ u ∈ four.flatMap fS, u.oneCell' = true := by
  intro u hu
  simp [four, fS] at hu
  rcases hu with rfl | rfl | rfl | rfl | rfl | rfl | rfl | rfl <;> rfl

set_option maxHeartbeats 4000000 in
theorem split_four (g : Nat) (w : World) (hr : Rd w 2 (some ⟨g, 0, none⟩) 4 (four.flatMap fS)) :
    Calls Try.prog 27 #[.agg #[.int .i64 0, .slice (some ⟨g, 0, none⟩) 4 4, .string ⟨#[]⟩, .bool true, .int .u64 0], .int .u64 7] w fun e w' => ∃ A' c' A2 c2, e = .returned (.tuple #[.agg #[.int .i64 0, .slice A' 2 c', .string ⟨#[99, 97, 114, 116]⟩, .bool false, .int .u64 7], .agg #[.int .i64 0, .slice A2 2 c2, .string ⟨#[]⟩, .bool true, .int .u64 0], .string ⟨#[99, 97, 114, 116]⟩, .bool true]) ∧ Below w.heap.size w w' := by
  obtain ⟨b, off, hbo, hbl, hcell⟩ := hr.2 (by omega)
  injection hbo with hbo
  injection hbo with hb1 hb2
  subst hb1; subst hb2
  have Hr := Lib.hid hr
  have Hcell := Lib.hid hcell
  have hc2 : w.cell? ⟨g, 4, none⟩ = some (.string ⟨#[99, 97, 114, 116]⟩) := by have := hcell 4 (by omega); simpa [four, fS] using this
  have hc1 : w.cell? ⟨g, 2, none⟩ = some (.string ⟨#[99, 97, 114, 112]⟩) := by have := hcell 2 (by omega); simpa [four, fS] using this
  have hB := ((bel_box w (.cells #[.int .i64 0, .slice (some ⟨g, 0, none⟩) 4 4, .string ⟨#[]⟩, .bool true, .int .u64 0] 25)).alloc (by simp) (.cells #[.int .i64 0, .slice none 0 0, .string ⟨#[]⟩, .bool false, .int .u64 0] 25)).alloc (by simp; omega) (.cells #[.int .i64 0, .slice none 0 0, .string ⟨#[]⟩, .bool false, .int .u64 0] 25)
  have hd2 := (hB.cell (p := ⟨g, 4, none⟩) hbl).trans hc2
  have hd1 := (hB.cell (p := ⟨g, 2, none⟩) hbl).trans hc1
  have HS := fun W => sepAt ⟨#[99, 97, 114, 112]⟩ ⟨#[99, 97, 114, 116]⟩ ⟨#[99, 97, 114, 116]⟩ W (by decide) (by decide +kernel)
  have Hsep := Lib.hid HS
  clear hcell hr HS
  go_enter Try.func27, Try.ntmps27
  go_wp2_with (go_at_call 35; refine (Hsep.out _).mono ?_; rintro e w1 ⟨rfl, rfl⟩)
  go_region
  · obtain ⟨B0, B1, B2, B3, B4, hb5, hs5⟩ := five w #[.int .i64 0, .slice (some ⟨g, 0, none⟩) 4 4, .string ⟨#[]⟩, .bool true, .int .u64 0] #[.int .i64 0, .slice none 0 0, .string ⟨#[]⟩, .bool false, .int .u64 0]
    generalize (((((w.alloc (.cells #[.int .i64 0, .slice (some ⟨g, 0, none⟩) 4 4, .string ⟨#[]⟩, .bool true, .int .u64 0] 25)).alloc (.cells #[.int .i64 0, .slice none 0 0, .string ⟨#[]⟩, .bool false, .int .u64 0] 25)).alloc (.cells #[.int .i64 0, .slice none 0 0, .string ⟨#[]⟩, .bool false, .int .u64 0] 25)).alloc (.cells #[.int .i64 0, .slice (some ⟨g, 0, none⟩) 4 4, .string ⟨#[]⟩, .bool true, .int .u64 0] 25)).alloc (.cells #[.int .i64 0, .slice (some ⟨g, 0, none⟩) 4 4, .string ⟨#[]⟩, .bool true, .int .u64 0] 25)).drew = W at *
    obtain ⟨⟨p0, p1, p2, p3, p4⟩, -⟩ := page_of B0
    have Hb5 := Lib.hid hb5
    have hr1 := (Hr.out.below hb5).take (k := 2) (by omega)
    have HC1 := Lib.hid (cloneAt ⟨g, 0, none⟩ 2 4 _ W hr1 (fun u hu => four_one u (List.mem_of_mem_take hu)) (by omega))
    clear hb5 hr1 hB hd1 hd2 hc1 hc2
    go_wp2_with fail
    refine HC1.out.mono ?_
    rintro e w1 ⟨⟨A1, c1, rfl⟩, hb1⟩
    have hl1 := hb1.size
    have C0 := B0.below hb1 (by omega)
    have C1 := B1.below hb1 (by omega)
    have C2 := B2.below hb1 (by omega)
    have CX := B3.below hb1 (by omega)
    have CY := B4.below hb1 (by omega)
    have hbw1 := Hb5.out.trans (hb1.mono (by omega))
    have hbw2 := (((hbw1.setCell (p := ⟨w.heap.size + 1 + 1 + 1, 1, none⟩) (by simp <;> omega) (.slice A1 2 c1)).setCell (p := ⟨w.heap.size + 1 + 1 + 1, 2, none⟩) (by simp <;> omega) (.string ⟨#[99, 97, 114, 116]⟩)).setCell (p := ⟨w.heap.size + 1 + 1 + 1, 3, none⟩) (by simp <;> omega) (.bool false)).setCell (p := ⟨w.heap.size + 1 + 1 + 1, 4, none⟩) (by simp <;> omega) (.int .u64 7)
    have DX := (((CX.set 1 (.slice A1 2 c1)).set 2 (.string ⟨#[99, 97, 114, 116]⟩)).set 3 (.bool false)).set 4 (.int .u64 7)
    have DY := (((CY.far (a := ⟨w.heap.size + 1 + 1 + 1, 1, none⟩) (by simp) (.slice A1 2 c1)).far (a := ⟨w.heap.size + 1 + 1 + 1, 2, none⟩) (by simp) (.string ⟨#[99, 97, 114, 116]⟩)).far (a := ⟨w.heap.size + 1 + 1 + 1, 3, none⟩) (by simp) (.bool false)).far (a := ⟨w.heap.size + 1 + 1 + 1, 4, none⟩) (by simp) (.int .u64 7)
    have D0 := (((C0.far (a := ⟨w.heap.size + 1 + 1 + 1, 1, none⟩) (by simp <;> omega) (.slice A1 2 c1)).far (a := ⟨w.heap.size + 1 + 1 + 1, 2, none⟩) (by simp <;> omega) (.string ⟨#[99, 97, 114, 116]⟩)).far (a := ⟨w.heap.size + 1 + 1 + 1, 3, none⟩) (by simp <;> omega) (.bool false)).far (a := ⟨w.heap.size + 1 + 1 + 1, 4, none⟩) (by simp <;> omega) (.int .u64 7)
    have D1 := (((C1.far (a := ⟨w.heap.size + 1 + 1 + 1, 1, none⟩) (by simp <;> omega) (.slice A1 2 c1)).far (a := ⟨w.heap.size + 1 + 1 + 1, 2, none⟩) (by simp <;> omega) (.string ⟨#[99, 97, 114, 116]⟩)).far (a := ⟨w.heap.size + 1 + 1 + 1, 3, none⟩) (by simp <;> omega) (.bool false)).far (a := ⟨w.heap.size + 1 + 1 + 1, 4, none⟩) (by simp <;> omega) (.int .u64 7)
    have D2 := (((C2.far (a := ⟨w.heap.size + 1 + 1 + 1, 1, none⟩) (by simp <;> omega) (.slice A1 2 c1)).far (a := ⟨w.heap.size + 1 + 1 + 1, 2, none⟩) (by simp <;> omega) (.string ⟨#[99, 97, 114, 116]⟩)).far (a := ⟨w.heap.size + 1 + 1 + 1, 3, none⟩) (by simp <;> omega) (.bool false)).far (a := ⟨w.heap.size + 1 + 1 + 1, 4, none⟩) (by simp <;> omega) (.int .u64 7)
    obtain ⟨⟨x0, x1, x2, x3, x4⟩, e0, e1, e2, e3, e4⟩ := page_of CX
    obtain ⟨⟨-, r1, -⟩, -⟩ := page_of C0
    have hr2 : Rd ((((w1.setCell ⟨w.heap.size + 1 + 1 + 1, 1, none⟩ (.slice A1 2 c1)).setCell ⟨w.heap.size + 1 + 1 + 1, 2, none⟩ (.string ⟨#[99, 97, 114, 116]⟩)).setCell ⟨w.heap.size + 1 + 1 + 1, 3, none⟩ (.bool false)).setCell ⟨w.heap.size + 1 + 1 + 1, 4, none⟩ (.int .u64 7)) 2 (some ⟨g, 4, none⟩) 2 ((four.flatMap fS).drop 4) := by
      refine ⟨by simp [four, fS], fun _ => ⟨g, 4, rfl, by have := hbw2.size; omega, fun j hj => ?_⟩⟩
      rw [hbw2.cell (p := ⟨g, 4 + j, none⟩) hbl]
      have := Hcell.out (4 + j) (by omega)
      rw [Nat.zero_add] at this
      rw [this, List.getElem?_drop]
    have HC2 := Lib.hid (cloneAt ⟨g, 4, none⟩ 2 2 _ _ hr2 (fun u hu => four_one u (List.mem_of_mem_drop hu)) (by omega))
    have Hbw2 := Lib.hid hbw2
    have HDX := Lib.hid DX
    have HDY := Lib.hid DY
    have HD0 := Lib.hid D0
    have HD1 := Lib.hid D1
    have HD2 := Lib.hid D2
    clear hbw2 hbw1 DX DY D0 D1 D2 CX CY C0 C1 C2 hr2 p0 p1 p2 p3 p4 B0 B1 B2 B3 B4 hb1
    go_wp2_with fail
    refine HC2.out.mono ?_
    rintro e w2 ⟨⟨A2, c2, rfl⟩, hb2⟩
    have hl2 : w1.heap.size ≤ w2.heap.size := by have := hb2.size; simpa using this
    have E0 := HD0.out.below hb2 (by simp <;> omega)
    have E1 := HD1.out.below hb2 (by simp <;> omega)
    have E2 := HD2.out.below hb2 (by simp <;> omega)
    have EX := HDX.out.below hb2 (by simp <;> omega)
    have EY := HDY.out.below hb2 (by simp <;> omega)
    have hbw3 := Hbw2.out.trans (hb2.mono (by simp <;> omega))
    obtain ⟨⟨x0, x1, x2, x3, x4⟩, -⟩ := page_of (show Blk w2 (w.heap.size + 1 + 1 + 1) 25 #[.int .i64 0, .slice A1 2 c1, .string ⟨#[99, 97, 114, 116]⟩, .bool false, .int .u64 7] from EX)
    obtain ⟨⟨y0, y1, y2, y3, y4⟩, -, ey, -⟩ := page_of EY
    obtain ⟨⟨i0, i1, i2, i3, i4⟩, f0, f1, f2, f3, f4⟩ := page_of E1
    obtain ⟨⟨j0, j1, j2, j3, j4⟩, g0, g1, g2, g3, g4⟩ := page_of E2
    have Hbw3 := Lib.hid hbw3
    clear hbw3 hb2 E0 E1 E2 EX EY HDX HDY HD0 HD1 HD2 Hbw2
    go_wp2_with fail
    go_region
    go_wp2_with fail
    refine bodyPost_ret (v := .tuple #[.agg #[.int .i64 0, .slice A1 2 c1, .string ⟨#[99, 97, 114, 116]⟩, .bool false, .int .u64 7], .agg #[.int .i64 0, .slice A2 2 c2, .string ⟨#[]⟩, .bool true, .int .u64 0], .string ⟨#[99, 97, 114, 116]⟩, .bool true]) ?_ rfl ⟨A1, c1, A2, c2, rfl, ?_⟩
    · simp [results, Try.results27, go_sem, i0, i1, i2, i3, i4, j0, j1, j2, j3, j4]
    · exact (((((((((((Hbw3.out.setCell (by simp <;> omega) _).setCell (by simp <;> omega) _).setCell (by simp <;> omega) _).setCell (by simp <;> omega) _).setCell (by simp <;> omega) _).setCell (by simp <;> omega) _).setCell (by simp <;> omega) _).setCell (by simp <;> omega) _).setCell (by simp <;> omega) _).setCell (by simp <;> omega) _).setCell (by simp <;> omega) _).drew
  · obtain ⟨B0, B1, B2, B3, B4, hb5, hs5⟩ := five w #[.int .i64 0, .slice (some ⟨g, 0, none⟩) 4 4, .string ⟨#[]⟩, .bool true, .int .u64 0] #[.int .i64 0, .slice none 0 0, .string ⟨#[]⟩, .bool false, .int .u64 0]
    generalize (((((w.alloc (.cells #[.int .i64 0, .slice (some ⟨g, 0, none⟩) 4 4, .string ⟨#[]⟩, .bool true, .int .u64 0] 25)).alloc (.cells #[.int .i64 0, .slice none 0 0, .string ⟨#[]⟩, .bool false, .int .u64 0] 25)).alloc (.cells #[.int .i64 0, .slice none 0 0, .string ⟨#[]⟩, .bool false, .int .u64 0] 25)).alloc (.cells #[.int .i64 0, .slice (some ⟨g, 0, none⟩) 4 4, .string ⟨#[]⟩, .bool true, .int .u64 0] 25)).alloc (.cells #[.int .i64 0, .slice (some ⟨g, 0, none⟩) 4 4, .string ⟨#[]⟩, .bool true, .int .u64 0] 25)).drew = W at *
    obtain ⟨⟨p0, p1, p2, p3, p4⟩, -⟩ := page_of B0
    have Hb5 := Lib.hid hb5
    have hr1 := (Hr.out.below hb5).take (k := 2) (by omega)
    have HC1 := Lib.hid (cloneAt ⟨g, 0, none⟩ 2 4 _ W hr1 (fun u hu => four_one u (List.mem_of_mem_take hu)) (by omega))
    clear hb5 hr1 hB hd1 hd2 hc1 hc2
    go_wp2_with fail
    refine HC1.out.mono ?_
    rintro e w1 ⟨⟨A1, c1, rfl⟩, hb1⟩
    have hl1 := hb1.size
    have C0 := B0.below hb1 (by omega)
    have C1 := B1.below hb1 (by omega)
    have C2 := B2.below hb1 (by omega)
    have CX := B4.below hb1 (by omega)
    have CY := B3.below hb1 (by omega)
    have hbw1 := Hb5.out.trans (hb1.mono (by omega))
    have hbw2 := (((hbw1.setCell (p := ⟨w.heap.size + 1 + 1 + 1 + 1, 1, none⟩) (by simp <;> omega) (.slice A1 2 c1)).setCell (p := ⟨w.heap.size + 1 + 1 + 1 + 1, 2, none⟩) (by simp <;> omega) (.string ⟨#[99, 97, 114, 116]⟩)).setCell (p := ⟨w.heap.size + 1 + 1 + 1 + 1, 3, none⟩) (by simp <;> omega) (.bool false)).setCell (p := ⟨w.heap.size + 1 + 1 + 1 + 1, 4, none⟩) (by simp <;> omega) (.int .u64 7)
    have DX := (((CX.set 1 (.slice A1 2 c1)).set 2 (.string ⟨#[99, 97, 114, 116]⟩)).set 3 (.bool false)).set 4 (.int .u64 7)
    have DY := (((CY.far (a := ⟨w.heap.size + 1 + 1 + 1 + 1, 1, none⟩) (by simp) (.slice A1 2 c1)).far (a := ⟨w.heap.size + 1 + 1 + 1 + 1, 2, none⟩) (by simp) (.string ⟨#[99, 97, 114, 116]⟩)).far (a := ⟨w.heap.size + 1 + 1 + 1 + 1, 3, none⟩) (by simp) (.bool false)).far (a := ⟨w.heap.size + 1 + 1 + 1 + 1, 4, none⟩) (by simp) (.int .u64 7)
    have D0 := (((C0.far (a := ⟨w.heap.size + 1 + 1 + 1 + 1, 1, none⟩) (by simp <;> omega) (.slice A1 2 c1)).far (a := ⟨w.heap.size + 1 + 1 + 1 + 1, 2, none⟩) (by simp <;> omega) (.string ⟨#[99, 97, 114, 116]⟩)).far (a := ⟨w.heap.size + 1 + 1 + 1 + 1, 3, none⟩) (by simp <;> omega) (.bool false)).far (a := ⟨w.heap.size + 1 + 1 + 1 + 1, 4, none⟩) (by simp <;> omega) (.int .u64 7)
    have D1 := (((C1.far (a := ⟨w.heap.size + 1 + 1 + 1 + 1, 1, none⟩) (by simp <;> omega) (.slice A1 2 c1)).far (a := ⟨w.heap.size + 1 + 1 + 1 + 1, 2, none⟩) (by simp <;> omega) (.string ⟨#[99, 97, 114, 116]⟩)).far (a := ⟨w.heap.size + 1 + 1 + 1 + 1, 3, none⟩) (by simp <;> omega) (.bool false)).far (a := ⟨w.heap.size + 1 + 1 + 1 + 1, 4, none⟩) (by simp <;> omega) (.int .u64 7)
    have D2 := (((C2.far (a := ⟨w.heap.size + 1 + 1 + 1 + 1, 1, none⟩) (by simp <;> omega) (.slice A1 2 c1)).far (a := ⟨w.heap.size + 1 + 1 + 1 + 1, 2, none⟩) (by simp <;> omega) (.string ⟨#[99, 97, 114, 116]⟩)).far (a := ⟨w.heap.size + 1 + 1 + 1 + 1, 3, none⟩) (by simp <;> omega) (.bool false)).far (a := ⟨w.heap.size + 1 + 1 + 1 + 1, 4, none⟩) (by simp <;> omega) (.int .u64 7)
    obtain ⟨⟨x0, x1, x2, x3, x4⟩, e0, e1, e2, e3, e4⟩ := page_of CX
    obtain ⟨⟨-, r1, -⟩, -⟩ := page_of C0
    have hr2 : Rd ((((w1.setCell ⟨w.heap.size + 1 + 1 + 1 + 1, 1, none⟩ (.slice A1 2 c1)).setCell ⟨w.heap.size + 1 + 1 + 1 + 1, 2, none⟩ (.string ⟨#[99, 97, 114, 116]⟩)).setCell ⟨w.heap.size + 1 + 1 + 1 + 1, 3, none⟩ (.bool false)).setCell ⟨w.heap.size + 1 + 1 + 1 + 1, 4, none⟩ (.int .u64 7)) 2 (some ⟨g, 4, none⟩) 2 ((four.flatMap fS).drop 4) := by
      refine ⟨by simp [four, fS], fun _ => ⟨g, 4, rfl, by have := hbw2.size; omega, fun j hj => ?_⟩⟩
      rw [hbw2.cell (p := ⟨g, 4 + j, none⟩) hbl]
      have := Hcell.out (4 + j) (by omega)
      rw [Nat.zero_add] at this
      rw [this, List.getElem?_drop]
    have HC2 := Lib.hid (cloneAt ⟨g, 4, none⟩ 2 2 _ _ hr2 (fun u hu => four_one u (List.mem_of_mem_drop hu)) (by omega))
    have Hbw2 := Lib.hid hbw2
    have HDX := Lib.hid DX
    have HDY := Lib.hid DY
    have HD0 := Lib.hid D0
    have HD1 := Lib.hid D1
    have HD2 := Lib.hid D2
    clear hbw2 hbw1 DX DY D0 D1 D2 CX CY C0 C1 C2 hr2 p0 p1 p2 p3 p4 B0 B1 B2 B3 B4 hb1
    go_wp2_with fail
    refine HC2.out.mono ?_
    rintro e w2 ⟨⟨A2, c2, rfl⟩, hb2⟩
    have hl2 : w1.heap.size ≤ w2.heap.size := by have := hb2.size; simpa using this
    have E0 := HD0.out.below hb2 (by simp <;> omega)
    have E1 := HD1.out.below hb2 (by simp <;> omega)
    have E2 := HD2.out.below hb2 (by simp <;> omega)
    have EX := HDX.out.below hb2 (by simp <;> omega)
    have EY := HDY.out.below hb2 (by simp <;> omega)
    have hbw3 := Hbw2.out.trans (hb2.mono (by simp <;> omega))
    obtain ⟨⟨x0, x1, x2, x3, x4⟩, -⟩ := page_of (show Blk w2 (w.heap.size + 1 + 1 + 1 + 1) 25 #[.int .i64 0, .slice A1 2 c1, .string ⟨#[99, 97, 114, 116]⟩, .bool false, .int .u64 7] from EX)
    obtain ⟨⟨y0, y1, y2, y3, y4⟩, -, ey, -⟩ := page_of EY
    obtain ⟨⟨i0, i1, i2, i3, i4⟩, f0, f1, f2, f3, f4⟩ := page_of E1
    obtain ⟨⟨j0, j1, j2, j3, j4⟩, g0, g1, g2, g3, g4⟩ := page_of E2
    have Hbw3 := Lib.hid hbw3
    clear hbw3 hb2 E0 E1 E2 EX EY HDX HDY HD0 HD1 HD2 Hbw2
    go_wp2_with fail
    go_region
    go_wp2_with fail
    refine bodyPost_ret (v := .tuple #[.agg #[.int .i64 0, .slice A1 2 c1, .string ⟨#[99, 97, 114, 116]⟩, .bool false, .int .u64 7], .agg #[.int .i64 0, .slice A2 2 c2, .string ⟨#[]⟩, .bool true, .int .u64 0], .string ⟨#[99, 97, 114, 116]⟩, .bool true]) ?_ rfl ⟨A1, c1, A2, c2, rfl, ?_⟩
    · simp [results, Try.results27, go_sem, i0, i1, i2, i3, i4, j0, j1, j2, j3, j4]
    · exact (((((((((((Hbw3.out.setCell (by simp <;> omega) _).setCell (by simp <;> omega) _).setCell (by simp <;> omega) _).setCell (by simp <;> omega) _).setCell (by simp <;> omega) _).setCell (by simp <;> omega) _).setCell (by simp <;> omega) _).setCell (by simp <;> omega) _).setCell (by simp <;> omega) _).setCell (by simp <;> omega) _).setCell (by simp <;> omega) _).drew
end Go.Proofs.Ytabmokekibgjeaa
