/-
  The contracts of page's at, Child, Below and the reference's Child, Below; blinktreekit.Mod.
-/
import Derived.Test.YtabmokekibgjeaaFind
namespace Go.Proofs.Ytabmokekibgjeaa
open Go.RowKit
attribute [local go_sem] Pl.bl_eq Pl.le_dec Pl.gt_dec tl bs_ex0

set_option maxHeartbeats 1000000 in
theorem atAt (lv : Int) (A : Option Addr) (n c : Nat) (l : List Pl.Slot) (hi : ByteArray) (la : Bool) (ri : Int) (i : Int) (x : Pl.Slot) (b : Bool) (w : World) (hn : l.length = n) (hr : Rd w 2 A n (l.flatMap fS)) (hb : n ≤ 1000) (hx : Pl.at_ l i = (x, b)) :
    Calls Try.prog 32 #[.agg #[.int .i64 lv, .slice A n c, .string hi, .bool la, .int .u64 ri], .int .i64 i] w fun e w' => e = .returned (.tuple #[.agg #[.string x.1, .int .u64 x.2], .bool b]) ∧ Below w.heap.size w w' := by
  have hB := (bel_box w (.cells #[.int .i64 lv, .slice A n c, .string hi, .bool la, .int .u64 ri] 25)).alloc (by simp) (.cells #[.string ⟨#[]⟩, .int .u64 0] 32)
  by_cases h1 : i < 0
  · rw [Pl.at_out (.inl h1)] at hx
    injection hx with hx hb'
    subst hx; subst hb'
    clear hr hn
    go_enter Try.func32, Try.ntmps32
    go_wp2_with fail
    refine bodyPost_ret (v := .tuple #[.agg #[.string ⟨#[]⟩, .int .u64 0], .bool false]) ?_ rfl ⟨rfl, ?_⟩
    · simp [results, Try.results32, go_sem]
    · exact (bel_box w _).alloc (by simp) _
  · by_cases h2 : (n : Int) ≤ i
    · rw [Pl.at_out (.inr (by rw [hn]; exact h2))] at hx
      injection hx with hx hb'
      subst hx; subst hb'
      clear hr hn
      go_enter Try.func32, Try.ntmps32
      go_wp2_with fail
      refine bodyPost_ret (v := .tuple #[.agg #[.string ⟨#[]⟩, .int .u64 0], .bool false]) ?_ rfl ⟨rfl, ?_⟩
      · simp [results, Try.results32, go_sem]
      · exact (bel_box w _).alloc (by simp) _
    · obtain ⟨k, rfl⟩ : ∃ k : Nat, i = k := ⟨i.toNat, by omega⟩
      obtain ⟨bl, off, rfl, hbl, hcell⟩ := hr.2 (by omega)
      have hkl : k < l.length := by omega
      obtain ⟨hc0, hc1⟩ := cells2 hn hbl hcell hB k hkl
      rw [Pl.at_in hkl] at hx
      injection hx with hx hb'
      subst hb'
      rw [hx] at hc0 hc1
      clear hcell hr hx hn
      go_enter Try.func32, Try.ntmps32
      go_wp2_with fail
      refine bodyPost_ret (v := .tuple #[.agg #[.string x.1, .int .u64 x.2], .bool true]) ?_ rfl ⟨rfl, ?_⟩
      · simp [results, Try.results32, go_sem]
      · exact (bel_box w _).alloc (by simp) _

/-- A page's block, in the world that a call left; and the result's block behind it. -/
theorem box25 {w w1 : World} {lv : Int} {A : Option Addr} {n c : Nat} {hi : ByteArray} {la : Bool} {ri : Int} (h : Below (w.alloc (.cells #[.int .i64 lv, .slice A n c, .string hi, .bool la, .int .u64 ri] 25)).heap.size (w.alloc (.cells #[.int .i64 lv, .slice A n c, .string hi, .bool la, .int .u64 ri] 25)) w1) :
    w1.cell? ⟨w.heap.size, 0, none⟩ = some (.int .i64 lv) ∧ w1.cell? ⟨w.heap.size, 1, none⟩ = some (.slice A n c) ∧ w1.cell? ⟨w.heap.size, 2, none⟩ = some (.string hi) ∧ w1.cell? ⟨w.heap.size, 3, none⟩ = some (.bool la) ∧ w1.cell? ⟨w.heap.size, 4, none⟩ = some (.int .u64 ri) :=
  ⟨box_cell h 0, box_cell h 1, box_cell h 2, box_cell h 3, box_cell h 4⟩
theorem slot_box {w w1 : World} {o : Obj} (h : Below ((w.alloc o).alloc (.cells #[.string ⟨#[]⟩, .int .u64 0] 32)).heap.size ((w.alloc o).alloc (.cells #[.string ⟨#[]⟩, .int .u64 0] 32)) w1) :
    w1.cell? ⟨w.heap.size + 1, 0, none⟩ = some (.string ⟨#[]⟩) ∧ w1.cell? ⟨w.heap.size + 1, 1, none⟩ = some (.int .u64 0) ∧ w1.frozen? ⟨w.heap.size + 1, 0, none⟩ = false ∧ w1.frozen? ⟨w.heap.size + 1, 1, none⟩ = false ∧ w.heap.size + 1 < w1.heap.size := by
  have hs := h.size
  have h0 := box_cell h 0
  have h1 := box_cell h 1
  have g0 := h.frozen (p := ⟨w.heap.size + 1, 0, none⟩) (by simp)
  have g1 := h.frozen (p := ⟨w.heap.size + 1, 1, none⟩) (by simp)
  have e : (w.alloc o).heap.size = w.heap.size + 1 := by simp
  rw [e] at h0 h1
  simp at hs
  refine ⟨h0, h1, ?_, ?_, by omega⟩
  · rw [g0]; exact World.frozen?_alloc_at _ _ _ _ (by simp)
  · rw [g1]; exact World.frozen?_alloc_at _ _ _ _ (by simp)

set_option maxHeartbeats 1000000 in
theorem childAt (lv : Int) (A : Option Addr) (n c : Nat) (l : List Pl.Slot) (hi : ByteArray) (la : Bool) (ri : Int) (key : ByteArray) (x : Pl.Slot) (b : Bool) (w : World) (hn : l.length = n) (hr : Rd w 2 A n (l.flatMap fS)) (hb : n ≤ 1000) (ha : Pl.Asc l) (hx : Pl.child (bs key) l = (x, b)) :
    Calls Try.prog 17 #[.agg #[.int .i64 lv, .slice A n c, .string hi, .bool la, .int .u64 ri], .string key] w fun e w' => e = .returned (.tuple #[.agg #[.string x.1, .int .u64 x.2], .bool b]) ∧ Below w.heap.size w w' := by
  obtain ⟨m, hm⟩ : ∃ m, Pl.cnt (bs key) l = m := ⟨_, rfl⟩
  obtain ⟨y, hy⟩ : ∃ y, Pl.has (bs key) l = y := ⟨_, rfl⟩
  have hmn : m ≤ n := by rw [← hm, ← hn]; exact Pl.cnt_le _ _
  have hB := (bel_box w (.cells #[.int .i64 lv, .slice A n c, .string hi, .bool la, .int .u64 ri] 25)).alloc (by simp) (.cells #[.string ⟨#[]⟩, .int .u64 0] 32)
  have Hc := Lib.hid (findAt lv A n c l hi la ri key m y _ hn (hr.below hB) hb ha hm hy)
  have Hb := Lib.hid hB
  unfold Pl.child at hx
  rw [hm, hy] at hx
  have Hx := Lib.hid hx
  have Hr := Lib.hid hr
  have Hn := Lib.hid hn
  clear hn hr ha hm hy hx hB
  go_enter Try.func17, Try.ntmps17
  go_wp2_with fail
  refine Hc.out.mono ?_
  rintro e w1 ⟨rfl, hb1⟩
  obtain ⟨q0, q1, q2, q3, q4⟩ := box25 (below_of hb1)
  have Hr1 := Lib.hid (Hr.out.below (below_of (below_of hb1)))
  have H1 := Lib.hid hb1
  clear hb1
  cases y
  · have Ha := Lib.hid (atAt lv A n c l hi la ri ((m : Int) - 1) x b w1 Hn.out Hr1.out hb (by simpa using Hx.out))
    go_wp2_with fail
    refine Ha.out.mono ?_
    rintro e w2 ⟨rfl, hb2⟩
    have hb3 := H1.out.trans (hb2.mono H1.out.size)
    obtain ⟨z0, z1, f0, f1, hz⟩ := slot_box hb3
    go_wp2_with fail
    refine bodyPost_ret (v := .tuple #[.agg #[.string x.1, .int .u64 x.2], .bool b]) ?_ rfl ⟨rfl, ?_⟩
    · simp [results, Try.results17, go_sem, z0, z1]
    · exact ((below_of (below_of hb3)).setCell (by simp) _).setCell (by simp) _
  · have Ha := Lib.hid (atAt lv A n c l hi la ri (m : Int) x b w1 Hn.out Hr1.out hb (by simpa using Hx.out))
    go_wp2_with fail
    refine Ha.out.mono ?_
    rintro e w2 ⟨rfl, hb2⟩
    have hb3 := H1.out.trans (hb2.mono H1.out.size)
    obtain ⟨z0, z1, f0, f1, hz⟩ := slot_box hb3
    go_wp2_with fail
    refine bodyPost_ret (v := .tuple #[.agg #[.string x.1, .int .u64 x.2], .bool b]) ?_ rfl ⟨rfl, ?_⟩
    · simp [results, Try.results17, go_sem, z0, z1]
    · exact ((below_of (below_of hb3)).setCell (by simp) _).setCell (by simp) _

set_option maxHeartbeats 1000000 in
theorem belowAt (lv : Int) (A : Option Addr) (n c : Nat) (l : List Pl.Slot) (hi : ByteArray) (la : Bool) (ri : Int) (key : ByteArray) (last : Bool) (x : Pl.Slot) (b : Bool) (w : World) (hn : l.length = n) (hr : Rd w 2 A n (l.flatMap fS)) (hb : n ≤ 1000) (ha : Pl.Asc l) (hx : Pl.below (bs key) last l = (x, b)) :
    Calls Try.prog 19 #[.agg #[.int .i64 lv, .slice A n c, .string hi, .bool la, .int .u64 ri], .string key, .bool last] w fun e w' => e = .returned (.tuple #[.agg #[.string x.1, .int .u64 x.2], .bool b]) ∧ Below w.heap.size w w' := by
  obtain ⟨m, hm⟩ : ∃ m, Pl.cnt (bs key) l = m := ⟨_, rfl⟩
  obtain ⟨y, hy⟩ : ∃ y, Pl.has (bs key) l = y := ⟨_, rfl⟩
  have hmn : m ≤ n := by rw [← hm, ← hn]; exact Pl.cnt_le _ _
  have hB := (bel_box w (.cells #[.int .i64 lv, .slice A n c, .string hi, .bool la, .int .u64 ri] 25)).alloc (by simp) (.cells #[.string ⟨#[]⟩, .int .u64 0] 32)
  have Hc := Lib.hid (findAt lv A n c l hi la ri key m y _ hn (hr.below hB) hb ha hm hy)
  have Hb := Lib.hid hB
  unfold Pl.below at hx
  rw [hm, hn] at hx
  have Hx := Lib.hid hx
  have Hr := Lib.hid hr
  have Hn := Lib.hid hn
  clear hn hr ha hm hy hx hB
  cases last
  · go_enter Try.func19, Try.ntmps19
    go_wp2_with fail
    refine Hc.out.mono ?_
    rintro e w1 ⟨rfl, hb1⟩
    obtain ⟨q0, q1, q2, q3, q4⟩ := box25 (below_of hb1)
    have Hr1 := Lib.hid (Hr.out.below (below_of (below_of hb1)))
    have H1 := Lib.hid hb1
    clear hb1
    have Ha := Lib.hid (atAt lv A n c l hi la ri ((m : Int) - 1) x b w1 Hn.out Hr1.out hb (by simpa using Hx.out))
    go_wp2_with fail
    refine Ha.out.mono ?_
    rintro e w2 ⟨rfl, hb2⟩
    have hb3 := H1.out.trans (hb2.mono H1.out.size)
    obtain ⟨z0, z1, f0, f1, hz⟩ := slot_box hb3
    go_wp2_with fail
    refine bodyPost_ret (v := .tuple #[.agg #[.string x.1, .int .u64 x.2], .bool b]) ?_ rfl ⟨rfl, ?_⟩
    · simp [results, Try.results19, go_sem, z0, z1]
    · exact ((below_of (below_of hb3)).setCell (by simp) _).setCell (by simp) _
  · have Ha := Lib.hid (atAt lv A n c l hi la ri ((n : Int) - 1) x b _ Hn.out (Hr.out.below Hb.out) hb (by simpa using Hx.out))
    go_enter Try.func19, Try.ntmps19
    go_wp2_with fail
    refine Ha.out.mono ?_
    rintro e w2 ⟨rfl, hb3⟩
    obtain ⟨z0, z1, f0, f1, hz⟩ := slot_box hb3
    go_wp2_with fail
    refine bodyPost_ret (v := .tuple #[.agg #[.string x.1, .int .u64 x.2], .bool b]) ?_ rfl ⟨rfl, ?_⟩
    · simp [results, Try.results19, go_sem, z0, z1]
    · exact ((below_of (below_of hb3)).setCell (by simp) _).setCell (by simp) _
end Go.Proofs.Ytabmokekibgjeaa
