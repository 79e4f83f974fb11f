/-
  The contracts of keys.Compare, the reference's Find, slices.BinarySearchFunc, page.Find.
-/
import Derived.Test.YtabmokekibgjeaaRows
import Derived.Test.YtabmokekibgjeaaMem
import Derived.Test.YtabmokekibgjeaaPlain
import Derived.BigQuiet
namespace Go.Proofs.Ytabmokekibgjeaa
open Go.RowKit
attribute [local go_sem] Pl.bl_eq Pl.le_dec Pl.gt_dec tl bs_ex0

/-- A slot's cells. -/
def fS (v : Pl.Slot) : List Value := [.string v.1, .int .u64 v.2]
theorem fS_len (v : Pl.Slot) : (fS v).length = 2 := rfl
theorem cells2 {w wr : World} {n b off : Nat} {l : List Pl.Slot} (hn : l.length = n) (hbl : b < w.heap.size) (hcell : ∀ j, j < n * 2 → w.cell? ⟨b, off + j, none⟩ = (l.flatMap fS)[j]?) (hbel : Below w.heap.size w wr) (k : Nat) (hk : k < l.length) :
    wr.cell? ⟨b, off + k * 2, none⟩ = some (.string l[k].1) ∧ wr.cell? ⟨b, off + k * 2 + 1, none⟩ = some (.int .u64 l[k].2) := by
  have h := flat_at fS_len l k
  refine ⟨?_, ?_⟩
  · rw [hbel.cell (p := ⟨b, off + k * 2, none⟩) hbl, hcell _ (by omega)]; exact h 0 hk (by omega)
  · rw [hbel.cell (p := ⟨b, off + k * 2 + 1, none⟩) hbl, Nat.add_assoc, hcell _ (by omega)]; exact h 1 hk (by omega)

theorem below_of {w w1 : World} {o : Obj} (h : Below (w.alloc o).heap.size (w.alloc o) w1) : Below w.heap.size w w1 :=
  ((Below.refl _ _).alloc (Nat.le_refl _) o).trans (h.mono (by simp))
theorem bel_box (w : World) (o : Obj) : Below w.heap.size w (w.alloc o) := (Below.refl _ _).alloc (Nat.le_refl _) o
/-- A block's cells, seen through what leaves it alone. -/
theorem box_cell {w w1 : World} {cs : Array Value} {t : TypeId} (h : Below (w.alloc (.cells cs t)).heap.size (w.alloc (.cells cs t)) w1) (i : Nat) : w1.cell? ⟨w.heap.size, i, none⟩ = cs[i]? := by
  rw [h.cell (p := ⟨w.heap.size, i, none⟩) (by simp), World.cell?_alloc_at _ _ _ _ rfl]

set_option maxHeartbeats 400000 in
theorem compare_any (a b : ByteArray) (w : World) :
    Calls Try.prog 31 #[.string a, .string b] w fun e w' => e = .returned (.int .i64 (Pl.cmp (bs a) (bs b))) ∧ w = w' := by
  by_cases h1 : (bs a) < (bs b)
  · rw [show Pl.cmp (bs a) (bs b) = -1 by simp [Pl.cmp, h1]]
    go_enter Try.func31, Try.ntmps31
    go_wp2
    go_ret
    exact ⟨rfl, rfl⟩
  · by_cases h2 : (bs b) < (bs a)
    · have h3 := Pl.gt_ne h2
      rw [show Pl.cmp (bs a) (bs b) = 1 by simp [Pl.cmp, h1, h2]]
      go_enter Try.func31, Try.ntmps31
      go_wp2
      go_ret
      exact ⟨rfl, rfl⟩
    · obtain rfl : a = b := ba_ext (Pl.eq_of h1 h2)
      rw [show Pl.cmp (bs a) (bs a) = 0 by simp [Pl.cmp, Pl.lt_irr]]
      go_enter Try.func31, Try.ntmps31
      go_wp2
      go_ret
      exact ⟨rfl, rfl⟩

set_option maxHeartbeats 400000 in
theorem closure_any (a b : ByteArray) (r : Int) (w : World) :
    Calls Try.prog 30 #[.agg #[.string a, .int .u64 r], .string b] w fun e w' => e = .returned (.int .i64 (Pl.cmp (bs a) (bs b))) ∧ Below w.heap.size w w' := by
  go_enter Try.func30, Try.ntmps30
  go_wp2_with fail
  refine (compare_any a b _).mono ?_
  rintro e w1 ⟨rfl, rfl⟩
  go_wp2_with fail
  go_ret
  exact ⟨rfl, bel_box _ _⟩
theorem closureAt (a b : ByteArray) (r c : Int) (w : World) (h : Pl.cmp (bs a) (bs b) = c) :
    Calls Try.prog 30 #[.agg #[.string a, .int .u64 r], .string b] w fun e w' => e = .returned (.int .i64 c) ∧ Below w.heap.size w w' := by
  subst h; exact closure_any a b r w

set_option maxHeartbeats 1000000 in
theorem refFind_any (lv : Int) (A : Option Addr) (n c : Nat) (l : List Pl.Slot) (hi : ByteArray) (la : Bool) (ri : Int) (key : ByteArray) (w : World) (hn : l.length = n) (hr : Rd w 2 A n (l.flatMap fS)) (hb : n ≤ 1000) :
    Calls Try.prog 16 #[.agg #[.int .i64 lv, .slice A n c, .string hi, .bool la, .int .u64 ri], .string key] w fun e w' => e = .returned (.tuple #[.int .i64 (Pl.cnt (bs key) l), .bool (Pl.has (bs key) l)]) ∧ Below w.heap.size w w' := by
  have hn' := Lib.hid hn
  go_enter Try.func16, Try.ntmps16
  clear hn
  go_wp2_with fail
  go_loopw [6, 7, 8] (fun m x i wr => ∃ k : Nat, k ≤ n ∧ i = .int .i64 k ∧ m = .int .i64 (Pl.cnt (bs key) (l.take k)) ∧ x = .bool (Pl.has (bs key) (l.take k)) ∧ Below (w.alloc (.cells #[.int .i64 lv, .slice A n c, .string hi, .bool la, .int .u64 ri] 25)).heap.size (w.alloc (.cells #[.int .i64 lv, .slice A n c, .string hi, .bool la, .int .u64 ri] 25)) wr) (fun _ _ i _ => n - (intOf i).toNat)
  case atStart => exact ⟨0, Nat.zero_le _, rfl, rfl, rfl, Below.refl _ _⟩
  case round =>
    obtain ⟨k, hk, rfl, rfl, rfl, hbel⟩ := hrel
    have q1 := box_cell hbel 1
    have hB := below_of hbel
    have hm := Pl.cnt_le (bs key) (l.take k)
    rw [List.length_take] at hm
    by_cases hlt : k < n
    · obtain ⟨b, off, rfl, hbl, hcell⟩ := hr.2 (by omega)
      have hkl : k < l.length := by rw [hn'.out]; exact hlt
      obtain ⟨hc0, hc1⟩ := cells2 hn'.out hbl hcell hB k hkl
      have h1 := Pl.cnt_snoc (bs key) (l.take k) l[k]
      have h2 := Pl.has_snoc (bs key) (l.take k) l[k]
      rw [← List.take_succ_eq_append_getElem hkl] at h1 h2
      have H1 := Lib.hid h1
      have H2 := Lib.hid h2
      clear h1 h2 hcell
      generalize l[k] = x at hc0 hc1 H1 H2
      obtain ⟨s, r⟩ := x
      dsimp only at hc0 hc1
      generalize Pl.cnt (bs key) (l.take k) = m at hm H1
      generalize Pl.has (bs key) (l.take k) = y at H2
      by_cases hs : bs s < bs key
      · have he := Pl.lt_ne hs
        cases y <;>
          (go_wp2_with fail
           refine ⟨⟨k + 1, by omega, by go_num, ?_, ?_, hbel⟩, by simp [intOf]; omega⟩
           · rw [H1.out]; simp [hs]; try go_num
           · rw [H2.out]; simp [he])
      · cases y <;> cases he : (bs s == bs key) <;>
          (go_wp2_with fail
           refine ⟨⟨k + 1, by omega, by go_num, ?_, ?_, hbel⟩, by simp [intOf]; omega⟩
           · rw [H1.out]; simp [hs]
           · rw [H2.out]; simp [he])
    · obtain rfl : k = n := by omega
      rw [List.take_of_length_le (by rw [hn'.out]; exact Nat.le_refl _)] at *
      go_wp2_with fail
      go_ret2
      exact ⟨rfl, hB⟩
theorem refFindAt (lv : Int) (A : Option Addr) (n c : Nat) (l : List Pl.Slot) (hi : ByteArray) (la : Bool) (ri : Int) (key : ByteArray) (m : Nat) (x : Bool) (w : World) (hn : l.length = n) (hr : Rd w 2 A n (l.flatMap fS)) (hb : n ≤ 1000) (hm : Pl.cnt (bs key) l = m) (hx : Pl.has (bs key) l = x) :
    Calls Try.prog 16 #[.agg #[.int .i64 lv, .slice A n c, .string hi, .bool la, .int .u64 ri], .string key] w fun e w' => e = .returned (.tuple #[.int .i64 m, .bool x]) ∧ Below w.heap.size w w' := by
  subst hm; subst hx; exact refFind_any lv A n c l hi la ri key w hn hr hb

theorem Try.fn30 : ∀ args w, (callFunc 30 args).run Try.prog w = .ok (.enter 30 args) w := by
  intro args w
  have h1 : (Try.f30.name == "runtime.NumGoroutine") = false := by kernel_rfl
  have h2 : Try.f30.body.isSome = true := by kernel_rfl
  obtain ⟨c, hc⟩ := Option.isSome_iff_exists.1 h2
  have h3 : ¬ Try.f30.name = "runtime.NumGoroutine" := by simpa using h1
  simp [callFunc, go_sem, h3, hc]

set_option maxHeartbeats 2000000 in
theorem search_any (A : Option Addr) (n c : Nat) (l : List Pl.Slot) (key : ByteArray) (m : Nat) (x : Bool) (w : World) (hn : l.length = n) (hr : Rd w 2 A n (l.flatMap fS)) (hb : n ≤ 1000) (ha : Pl.Asc l) (hm : Pl.cnt (bs key) l = m) (hx : Pl.has (bs key) l = x) :
    Calls Try.prog 29 #[.slice A n c, .string key, .func (.func 30) #[] #[]] w fun e w' => e = .returned (.tuple #[.int .i64 m, .bool x]) ∧ Below w.heap.size w w' := by
  have hn' := Lib.hid hn
  have hmn : m ≤ n := by rw [← hm, ← hn]; exact Pl.cnt_le _ _
  have hiff : ∀ i (h : i < l.length), bs l[i].1 < bs key ↔ i < m := by rw [← hm]; exact fun i h => Pl.cnt_iff ha i h
  have hfin : x = true ↔ ∃ h : m < l.length, bs l[m].1 = bs key := by subst hm; subst hx; exact Pl.has_iff ha
  have Hiff := Lib.hid hiff
  have Hfin := Lib.hid hfin
  have e30 := Try.fn30
  go_enter Try.func29, Try.ntmps29
  clear hn hm hx hiff hfin
  go_wp2_with fail
  go_loopw [9, 10] (fun i j wr => ∃ lo hi : Nat, i = .int .i64 lo ∧ j = .int .i64 hi ∧ lo ≤ m ∧ m ≤ hi ∧ hi ≤ n ∧ Below w.heap.size w wr) (fun i j _ => (intOf j - intOf i).toNat)
  case atStart => exact ⟨0, n, rfl, rfl, Nat.zero_le _, hmn, Nat.le_refl _, Below.refl _ _⟩
  case round =>
    obtain ⟨lo, hi, rfl, rfl, hlm, hmh, hhn, hbel⟩ := hrel
    by_cases hlt : lo < hi
    · obtain ⟨b, off, rfl, hbl, hcell⟩ := hr.2 (by omega)
      have hkl : (lo + hi) / 2 < l.length := by rw [hn'.out]; omega
      obtain ⟨hc0, hc1⟩ := cells2 hn'.out hbl hcell hbel _ hkl
      have hi2 := Lib.hid (Hiff.out _ hkl)
      have hsz := hbel.size
      clear hcell
      generalize l[(lo + hi) / 2] = y at hc0 hc1 hi2
      obtain ⟨s, r⟩ := y
      dsimp only at hc0 hc1
      by_cases hs : bs s < bs key
      · have hh := hi2.out.1 hs
        go_wp2_with (go_at_call 30; refine (closureAt s key r (-1) _ (by simp [Pl.cmp, hs])).mono ?_; rintro e w1 ⟨rfl, hb1⟩)
        exact ⟨⟨(lo + hi) / 2 + 1, hi, by go_num, rfl, by omega, by omega, by omega, hbel.trans (hb1.mono hsz)⟩, by simp [intOf]; omega⟩
      · have hh : ¬ (lo + hi) / 2 < m := fun h => hs (hi2.out.2 h)
        obtain ⟨v, hv, hv0⟩ : ∃ v, Pl.cmp (bs s) (bs key) = v ∧ 0 ≤ v ∧ v ≤ 1 := ⟨_, rfl, by unfold Pl.cmp; rw [if_neg hs]; split <;> omega⟩
        go_wp2_with (go_at_call 30; refine (closureAt s key r v _ hv).mono ?_; rintro e w1 ⟨rfl, hb1⟩)
        exact ⟨⟨lo, (lo + hi) / 2, rfl, by go_num, by omega, by omega, by omega, hbel.trans (hb1.mono hsz)⟩, by simp [intOf]; omega⟩
    · obtain rfl : hi = lo := by omega
      obtain rfl : m = hi := by omega
      have hsz := hbel.size
      by_cases hmn' : m < n
      · obtain ⟨b, off, rfl, hbl, hcell⟩ := hr.2 (by omega)
        have hkl : m < l.length := by rw [hn'.out]; omega
        obtain ⟨hc0, hc1⟩ := cells2 hn'.out hbl hcell hbel _ hkl
        have hi2 : Hid (¬ bs l[m].1 < bs key) := fun h => absurd ((Hiff.out _ hkl).1 h) (Nat.lt_irrefl _)
        have hfx : x = decide (bs l[m].1 = bs key) := by
          have := Hfin.out
          cases x
          · symm; rw [decide_eq_false_iff_not]; exact fun h => Bool.false_ne_true (this.2 ⟨hkl, h⟩)
          · symm; rw [decide_eq_true_iff]; exact (this.1 rfl).2
        have Hfx := Lib.hid hfx
        clear hcell hfx
        generalize l[m] = y at hc0 hc1 hi2 Hfx
        obtain ⟨s, r⟩ := y
        dsimp only at hc0 hc1
        by_cases hg : bs key < bs s
        · have hx0 : x = false := by rw [Hfx.out]; simp; intro h; rw [h] at hg; exact Pl.lt_irr _ hg
          subst hx0
          go_wp2_with (go_at_call 30; refine (closureAt s key r 1 _ (by simp [Pl.cmp, hg, Pl.lt_asy hg])).mono ?_; rintro e w1 ⟨rfl, hb1⟩)
          go_ret2
          exact ⟨rfl, hbel.trans (hb1.mono hsz)⟩
        · have he : bs s = bs key := Pl.eq_of hi2.out hg
          have hx0 : x = true := by rw [Hfx.out]; simpa using he
          subst hx0
          go_wp2_with (go_at_call 30; refine (closureAt s key r 0 _ (by rw [he]; simp [Pl.cmp, Pl.lt_irr])).mono ?_; rintro e w1 ⟨rfl, hb1⟩)
          go_ret2
          exact ⟨rfl, hbel.trans (hb1.mono hsz)⟩
      · have hx0 : x = false := by
          have := Hfin.out
          cases x
          · rfl
          · exact absurd (this.1 rfl).1 (by rw [hn'.out]; exact hmn')
        subst hx0
        go_wp2_with fail
        go_ret2
        exact ⟨rfl, hbel⟩

set_option maxHeartbeats 1000000 in
theorem findAt (lv : Int) (A : Option Addr) (n c : Nat) (l : List Pl.Slot) (hi : ByteArray) (la : Bool) (ri : Int) (key : ByteArray) (m : Nat) (x : Bool) (w : World) (hn : l.length = n) (hr : Rd w 2 A n (l.flatMap fS)) (hb : n ≤ 1000) (ha : Pl.Asc l) (hm : Pl.cnt (bs key) l = m) (hx : Pl.has (bs key) l = x) :
    Calls Try.prog 15 #[.agg #[.int .i64 lv, .slice A n c, .string hi, .bool la, .int .u64 ri], .string key] w fun e w' => e = .returned (.tuple #[.int .i64 m, .bool x]) ∧ Below w.heap.size w w' := by
  have hr0 := hr.below (bel_box w (.cells #[.int .i64 lv, .slice A n c, .string hi, .bool la, .int .u64 ri] 25))
  have Hc := Lib.hid (search_any A n c l key m x _ hn hr0 hb ha hm hx)
  clear hn hr hb ha hm hx hr0
  go_enter Try.func15, Try.ntmps15
  go_wp2_with fail
  refine Hc.out.mono ?_
  rintro e w1 ⟨rfl, hb1⟩
  go_wp2_with fail
  go_ret2
  exact ⟨rfl, below_of hb1⟩
end Go.Proofs.Ytabmokekibgjeaa
