/-
  blinktreekit.Same and the reference's Same, at equal lists and pages.
-/
import Derived.Test.YtabmokekibgjeaaSearches
namespace Go.Proofs.Ytabmokekibgjeaa
open Go.RowKit
attribute [local go_sem] Pl.bl_eq Pl.le_dec Pl.gt_dec tl bs_ex0

theorem neq_same (x : Pl.Slot) (w : World) :
    (binOp .neq 32 (.agg #[.string x.1, .int .u64 x.2]) (.agg #[.string x.1, .int .u64 x.2])).run Try.prog w = .ok (.bool false) w := by
  simp [go_sem]

set_option maxHeartbeats 2000000 in
theorem sameAt (A B : Option Addr) (n c d : Nat) (l : List Pl.Slot) (w : World) (hn : l.length = n) (hr : Rd w 2 A n (l.flatMap fS)) (hs : Rd w 2 B n (l.flatMap fS)) (hb : n ≤ 1000) :
    Calls Try.prog 24 #[.slice A n c, .slice B n d] w fun e w' => e = .returned (.bool true) ∧ Below w.heap.size w w' := by
  have Hn := Lib.hid hn
  have Hr := Lib.hid hr
  have Hs := Lib.hid hs
  clear hn hr hs
  go_enter Try.func24, Try.ntmps24
  go_wp2_with fail
  go_loopw [5] (fun i wr => ∃ k : Nat, k ≤ n ∧ i = .int .i64 k ∧ Below w.heap.size w wr) (fun i _ => n - (intOf i).toNat)
  case atStart => exact ⟨0, Nat.zero_le _, rfl, Below.refl _ _⟩
  case round =>
    obtain ⟨k, hk, rfl, hbel⟩ := hrel
    by_cases hlt : k < n
    · obtain ⟨b, off, rfl, hbl, hcell⟩ := Hr.out.2 (by omega)
      obtain ⟨b', off', rfl, hbl', hcell'⟩ := Hs.out.2 (by omega)
      have hkl : k < l.length := by rw [Hn.out]; exact hlt
      obtain ⟨hc0, hc1⟩ := cells2 Hn.out hbl hcell hbel k hkl
      obtain ⟨gc0, gc1⟩ := cells2 Hn.out hbl' hcell' hbel k hkl
      clear hcell hcell'
      generalize l[k] = x at hc0 hc1 gc0 gc1
      have hv := neq_same x
      go_wp2_with fail
      go_quiet (fail)
      go_wp2_with fail
      exact ⟨⟨k + 1, by omega, by go_num, bel_drewN hbel _⟩, by simp [intOf]; omega⟩
    · obtain rfl : k = n := by omega
      go_wp2_with fail
      go_ret
      exact ⟨rfl, hbel⟩

set_option maxHeartbeats 2000000 in
theorem refSameAt (lv : Int) (A B : Option Addr) (n c d : Nat) (l : List Pl.Slot) (hi : ByteArray) (la : Bool) (ri : Int) (w : World) (hn : l.length = n) (hr : Rd w 2 A n (l.flatMap fS)) (hs : Rd w 2 B n (l.flatMap fS)) (hb : n ≤ 1000) :
    Calls Try.prog 22 #[.agg #[.int .i64 lv, .slice A n c, .string hi, .bool la, .int .u64 ri], .agg #[.int .i64 lv, .slice B n d, .string hi, .bool la, .int .u64 ri]] w fun e w' => e = .returned (.bool true) ∧ Below w.heap.size w w' := by
  have Hn := Lib.hid hn
  have Hr := Lib.hid hr
  have Hs := Lib.hid hs
  clear hn hr hs
  have K1 := (Blk.new w 25 #[.int .i64 lv, .slice A n c, .string hi, .bool la, .int .u64 ri]).below (bel_box _ (.cells #[.int .i64 lv, .slice B n d, .string hi, .bool la, .int .u64 ri] 25)) (by simp)
  have K2 := Blk.new (w.alloc (.cells #[.int .i64 lv, .slice A n c, .string hi, .bool la, .int .u64 ri] 25)) 25 #[.int .i64 lv, .slice B n d, .string hi, .bool la, .int .u64 ri]
  rw [show (w.alloc (.cells #[.int .i64 lv, .slice A n c, .string hi, .bool la, .int .u64 ri] 25)).heap.size = w.heap.size + 1 by simp] at K2
  have hB0 := (bel_box w (.cells #[.int .i64 lv, .slice A n c, .string hi, .bool la, .int .u64 ri] 25)).alloc (by simp) (.cells #[.int .i64 lv, .slice B n d, .string hi, .bool la, .int .u64 ri] 25)
  have HK1 := Lib.hid K1
  have HK2 := Lib.hid K2
  have HB0 := Lib.hid hB0
  clear K1 K2 hB0
  go_enter Try.func22, Try.ntmps22
  go_wp2_with fail
  generalize (w.alloc (.cells #[.int .i64 lv, .slice A n c, .string hi, .bool la, .int .u64 ri] 25)).alloc (.cells #[.int .i64 lv, .slice B n d, .string hi, .bool la, .int .u64 ri] 25) = V at *
  go_loopw [5] (fun i wr => ∃ k : Nat, k ≤ n ∧ i = .int .i64 k ∧ Below V.heap.size V wr) (fun i _ => n - (intOf i).toNat)
  case atStart => exact ⟨0, Nat.zero_le _, rfl, Below.refl _ _⟩
  case round =>
    obtain ⟨k, hk, rfl, hbel⟩ := hrel
    obtain ⟨⟨p0, p1, p2, p3, p4⟩, -⟩ := page_of (HK1.out.below hbel HK1.out.lt)
    obtain ⟨⟨q0, q1, q2, q3, q4⟩, -⟩ := page_of (HK2.out.below hbel HK2.out.lt)
    have hbw := HB0.out.trans (hbel.mono HB0.out.size)
    by_cases hlt : k < n
    · obtain ⟨b, off, rfl, hbl, hcell⟩ := Hr.out.2 (by omega)
      obtain ⟨b', off', rfl, hbl', hcell'⟩ := Hs.out.2 (by omega)
      have hkl : k < l.length := by rw [Hn.out]; exact hlt
      obtain ⟨hc0, hc1⟩ := cells2 Hn.out hbl hcell hbw k hkl
      obtain ⟨gc0, gc1⟩ := cells2 Hn.out hbl' hcell' hbw k hkl
      clear hcell hcell' p0 p2 p3 p4 q0 q2 q3 q4
      generalize l[k] = x at hc0 hc1 gc0 gc1
      have hv := neq_same x
      go_wp2_with fail
      go_quiet (fail)
      go_wp2_with fail
      exact ⟨⟨k + 1, by omega, by go_num, bel_drewN hbel _⟩, by simp [intOf]; omega⟩
    · obtain rfl : k = n := by omega
      have Hbw := Lib.hid hbw
      clear hbw
      go_wp2_with fail
      go_ret
      exact ⟨rfl, Hbw.out⟩
end Go.Proofs.Ytabmokekibgjeaa
