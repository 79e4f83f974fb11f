/-
  The law's 'awake'.
-/
import Derived.Test.YtabmokekibgjeaaSplit
import Derived.Test.YtabmokekibgjeaaCheck
namespace Go.Proofs.Ytabmokekibgjeaa
open Go.RowKit
attribute [local go_sem] Pl.bl_eq Pl.le_dec Pl.gt_dec tl bs_ex0

theorem four_ok : Pl.ok 0 four ⟨#[]⟩ true 0 4 := by
  refine ⟨⟨by decide, by decide, by decide⟩, fun i h => ?_, fun _ => ⟨rfl, rfl⟩, fun h => absurd h (by simp)⟩
  have h4 : i < 4 := h
  have hi : i = 0 ∨ i = 1 ∨ i = 2 ∨ i = 3 := by omega
  rcases hi with rfl | rfl | rfl | rfl
  · exact ⟨show (1 : Int) ≠ 0 by decide, fun h => absurd h (by omega), fun h => absurd h (by simp)⟩
  · exact ⟨show (2 : Int) ≠ 0 by decide, fun _ => show bs ⟨#[97]⟩ < bs ⟨#[99, 97, 114, 112]⟩ by decide, fun h => absurd h (by simp)⟩
  · exact ⟨show (3 : Int) ≠ 0 by decide, fun _ => show bs ⟨#[99, 97, 114, 112]⟩ < bs ⟨#[99, 97, 114, 116]⟩ by decide, fun h => absurd h (by simp)⟩
  · exact ⟨show (4 : Int) ≠ 0 by decide, fun _ => show bs ⟨#[99, 97, 114, 116]⟩ < bs ⟨#[100]⟩ by decide, fun h => absurd h (by simp)⟩
theorem four_rd (w : World) : Rd (w.alloc (.cells #[.string ⟨#[97]⟩, .int .u64 1, .string ⟨#[99, 97, 114, 112]⟩, .int .u64 2, .string ⟨#[99, 97, 114, 116]⟩, .int .u64 3, .string ⟨#[100]⟩, .int .u64 4] 32)) 2 (some ⟨w.heap.size, 0, none⟩) 4 (four.flatMap fS) := by
  refine ⟨rfl, fun _ => ⟨w.heap.size, 0, rfl, by simp, fun j _ => ?_⟩⟩
  rw [World.cell?_alloc_at _ _ _ _ rfl, Nat.zero_add]
  exact List.getElem?_toArray (xs := four.flatMap fS) (i := j)

set_option maxHeartbeats 2000000 in
theorem awake_any (w : World) : Calls Try.prog 9 #[] w fun e w' => e = .returned (.bool true) ∧ Below w.heap.size w w' := by
  have hb0 := bel_box w (.cells #[.string ⟨#[97]⟩, .int .u64 1, .string ⟨#[99, 97, 114, 112]⟩, .int .u64 2, .string ⟨#[99, 97, 114, 116]⟩, .int .u64 3, .string ⟨#[100]⟩, .int .u64 4] 32)
  have h0 := four_rd w
  have hr1 := h0.below (bel_box _ (.cells #[.int .i64 0, .slice (some ⟨w.heap.size, 0, none⟩) 4 4, .string ⟨#[]⟩, .bool true, .int .u64 0] 25))
  have hb1 := hb0.alloc hb0.size (.cells #[.int .i64 0, .slice (some ⟨w.heap.size, 0, none⟩) 4 4, .string ⟨#[]⟩, .bool true, .int .u64 0] 25)
  have B1 := Blk.new (w.alloc (.cells #[.string ⟨#[97]⟩, .int .u64 1, .string ⟨#[99, 97, 114, 112]⟩, .int .u64 2, .string ⟨#[99, 97, 114, 116]⟩, .int .u64 3, .string ⟨#[100]⟩, .int .u64 4] 32)) 25 #[.int .i64 0, .slice (some ⟨w.heap.size, 0, none⟩) 4 4, .string ⟨#[]⟩, .bool true, .int .u64 0]
  rw [show (w.alloc (.cells #[.string ⟨#[97]⟩, .int .u64 1, .string ⟨#[99, 97, 114, 112]⟩, .int .u64 2, .string ⟨#[99, 97, 114, 116]⟩, .int .u64 3, .string ⟨#[100]⟩, .int .u64 4] 32)).heap.size = w.heap.size + 1 by simp] at B1
  have HS := Lib.hid (split_four w.heap.size _ hr1)
  have HR := Lib.hid hr1
  have HB1 := Lib.hid hb1
  have HK := Lib.hid B1
  clear hb0 h0 hr1 hb1 B1
  go_enter Try.func9, Try.ntmps9
  go_wp2_with fail
  refine HS.out.mono ?_
  rintro e w1 ⟨A1, c1, A2, c2, rfl, hb2⟩
  have hu2 := ((bel_box w1 (.cells #[.int .i64 0, .slice A1 2 c1, .string ⟨#[99, 97, 114, 116]⟩, .bool false, .int .u64 7] 25)).alloc (by simp) (.cells #[.int .i64 0, .slice A2 2 c2, .string ⟨#[]⟩, .bool true, .int .u64 0] 25))
  have hb4 := hb2.trans (hu2.mono hb2.size)
  have K4 := HK.out.below hb4 HK.out.lt
  obtain ⟨⟨p0, p1, p2, p3, p4⟩, -⟩ := page_of K4
  have HC := Lib.hid (checkAt 0 (some ⟨w.heap.size, 0, none⟩) 4 4 four ⟨#[]⟩ true 0 4 true _ rfl (HR.out.below hb4) (by omega) ⟨fun _ => four_ok, fun _ => rfl⟩)
  have HB4 := Lib.hid (HB1.out.trans (hb4.mono HB1.out.size))
  clear hu2 hb4 K4 hb2
  go_wp2_with (go_at_call 10; refine HC.out.mono ?_; rintro e w2 ⟨rfl, hb5⟩)
  go_ret
  exact ⟨rfl, HB4.out.trans (hb5.mono HB4.out.size)⟩
end Go.Proofs.Ytabmokekibgjeaa
