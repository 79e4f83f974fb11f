/-
  RecordDeadIsInvisible: the law returns true on every input. (The walk.)
-/
import Derived.Test.YthffgfgejggjaaaAwake
namespace Go.Proofs.Ythffgfgejggjaaa
open Go.RowKit

theorem below_of' {w w1 : World} {o : Obj} (h : Below (w.heap.size + 1) (w.alloc o) w1) : Below w.heap.size w w1 :=
  ((Below.refl _ _).alloc (Nat.le_refl _) o).trans (h.mono (Nat.le_succ _))

set_option maxHeartbeats 4000000 in
theorem inv_dead (A : Option Addr) (n c : Nat) (a b : Int) (p : Bool) (L : List Pl.Ver) (w : World)
    (hv : Hid (Calls Try.prog 9 #[.slice A n c, .bool p] w fun e w' => ∃ A' c', e = .returned (.slice A' L.length c') ∧ Rd w' 3 A' L.length (L.flatMap fV) ∧ L.length ≤ c' ∧ Below w.heap.size w w'))
    (hL : Hid (L.length ≤ 1000)) (ha : 0 ≤ a) (hb : 0 ≤ b) (hd : Hid (Pl.dead L (a % 60) = true)) :
    Calls Try.prog 7 #[.slice A n c, .int .u64 a, .int .u64 b, .bool p] w fun e w' => e = .returned (.bool true) ∧ Below w.heap.size w w' := by
  have ha2 : a % 60 < 60 := by omega
  go_enter Try.func7, Try.ntmps7
  go_wp2_with fail
  refine hv.out.mono ?_
  rintro e w1 ⟨A1, c1, rfl, hr1, hc1, hb1⟩
  have Hr1 := Lib.hid hr1
  have Hb1 := Lib.hid hb1
  clear hr1 hb1
  go_wp2_with fail
  refine (deadAt A1 L.length c1 L _ true _ rfl Hr1.out hL.out hd.out).mono ?_
  rintro e w2 ⟨rfl, hb2⟩
  have Hr2 := Lib.hid (Hr1.out.below hb2)
  have Hb2 := Lib.hid (Hb1.out.trans (hb2.mono Hb1.out.size))
  clear hb2
  go_wp2_with fail
  go_loopw [31] (fun i wr => ∃ k : Nat, k ≤ 3 ∧ i = .int .i64 k ∧ Below (w2.heap.size + 1) (w2.alloc (.cells #[.int .u64 (a % 60), .int .u64 (a % 60 + b % 50), .int .u64 18446744073709551615] 23)) wr) (fun i _ => 3 - (intOf i).toNat)
  case atStart => exact ⟨0, by omega, rfl, Below.refl _ _⟩
  case round =>
    obtain ⟨k, hk, rfl, hbel⟩ := hrel
    have hb3 := below_of' hbel
    have Hb4 := Lib.hid (Hb2.out.trans (hb3.mono Hb2.out.size))
    have Hr4 := Lib.hid (Hr2.out.below hb3)
    by_cases hlt : k < 3
    · have hall : ∃ t, wr.cell? ⟨w2.heap.size, k, none⟩ = some (.int .u64 t) ∧ a % 60 ≤ t := by
        have h : ∀ j, wr.cell? ⟨w2.heap.size, j, none⟩ = #[Value.int .u64 (a % 60), .int .u64 (a % 60 + b % 50), .int .u64 18446744073709551615][j]? := fun j => by
          rw [hbel.cell (p := ⟨w2.heap.size, j, none⟩) (by simp), World.cell?_alloc_at _ _ _ _ rfl]
        match k, hlt with
        | 0, _ => exact ⟨_, h 0, Int.le_refl _⟩
        | 1, _ => exact ⟨_, h 1, by omega⟩
        | 2, _ => exact ⟨_, h 2, by omega⟩
      obtain ⟨t, hc0, ht⟩ := hall
      have Ht := Lib.hid (Pl.has_dead L ht hd.out)
      clear ht hb3
      go_wp2_with fail
      refine (valueAt A1 L.length c1 L t false _ rfl Hr4.out hL.out Ht.out).mono ?_
      rintro e w5 ⟨s, rfl, hb5⟩
      have hbel5 := hbel.trans (hb5.mono (by have := hbel.size; simpa using this))
      clear hb5
      go_wp2_with fail
      exact ⟨⟨k + 1, by omega, by go_num, hbel5⟩, by simp [intOf]; omega⟩
    · obtain rfl : k = 3 := by omega
      clear hb3
      go_wp2_with fail
      refine (awake_any _).mono ?_
      rintro e w5 ⟨rfl, hb5⟩
      go_wp2_with fail
      go_ret
      exact ⟨rfl, Hb4.out.trans (hb5.mono Hb4.out.size)⟩

set_option maxHeartbeats 4000000 in
theorem inv_live (A : Option Addr) (n c : Nat) (a b : Int) (p : Bool) (L : List Pl.Ver) (s : Int) (v : ByteArray) (d : Bool) (w : World)
    (hv : Hid (Calls Try.prog 9 #[.slice A n c, .bool p] w fun e w' => ∃ A' c', e = .returned (.slice A' (((s, v, d) :: L).length) c') ∧ Rd w' 3 A' (((s, v, d) :: L).length) (((s, v, d) :: L).flatMap fV) ∧ ((s, v, d) :: L).length ≤ c' ∧ Below w.heap.size w w'))
    (hL : Hid (((s, v, d) :: L).length ≤ 1000)) (ha : 0 ≤ a) (hd : Hid (Pl.dead ((s, v, d) :: L) (a % 60) = false)) :
    Calls Try.prog 7 #[.slice A n c, .int .u64 a, .int .u64 b, .bool p] w fun e w' => e = .returned (.bool true) ∧ Below w.heap.size w w' := by
  have ha2 : a % 60 < 60 := by omega
  obtain ⟨m, hm⟩ : ∃ m, ((s, v, d) :: L).length = m := ⟨_, rfl⟩
  have hm0 : 0 < m := by rw [← hm]; simp
  have hne : ((m : Int) == 0) = false := by simp; omega
  have Hm := Lib.hid hm
  rw [hm] at hv hL
  clear hm
  go_enter Try.func7, Try.ntmps7
  go_wp2_with fail
  refine hv.out.mono ?_
  rintro e w1 ⟨A1, c1, rfl, hr1, hc1, hb1⟩
  obtain ⟨g, off, rfl, hgl, hcell⟩ := hr1.2 hm0
  have Hr1 := Lib.hid hr1
  have Hb1 := Lib.hid hb1
  have Hc := Lib.hid hcell
  clear hr1 hb1 hcell
  go_wp2_with fail
  refine (deadAt _ m c1 ((s, v, d) :: L) _ false _ Hm.out Hr1.out hL.out hd.out).mono ?_
  rintro e w2 ⟨rfl, hb2⟩
  have hc0 : w2.cell? ⟨g, off, none⟩ = some (.int .u64 s) := by
    have := (cells3 Hm.out hgl Hc.out hb2 0 (by simp)).1
    simpa using this
  have Hr2 := Lib.hid (Hr1.out.below hb2)
  have Hb2 := Lib.hid (Hb1.out.trans (hb2.mono Hb1.out.size))
  clear hb2
  by_cases h0 : s = 0
  · subst h0
    go_wp2_with fail
    refine (awake_any _).mono ?_
    rintro e w3 ⟨rfl, hb3⟩
    go_wp2_with fail
    go_ret
    exact ⟨rfl, Hb2.out.trans (hb3.mono Hb2.out.size)⟩
  · have hs0 : (s == 0) = false := by simpa using h0
    by_cases h1 : a % 60 < s
    · clear h0
      go_wp2_with fail
      refine (awake_any _).mono ?_
      rintro e w3 ⟨rfl, hb3⟩
      go_wp2_with fail
      go_ret
      exact ⟨rfl, Hb2.out.trans (hb3.mono Hb2.out.size)⟩
    · have Hh := Lib.hid (Pl.has_live (s, v, d) L h0 (by omega) hd.out)
      clear h0
      go_wp2_with fail
      refine (valueAt _ m c1 ((s, v, d) :: L) _ true _ Hm.out Hr2.out hL.out Hh.out).mono ?_
      rintro e w3 ⟨x, rfl, hb3⟩
      have Hb3 := Lib.hid (Hb2.out.trans (hb3.mono Hb2.out.size))
      clear hb3
      go_wp2_with fail
      refine (awake_any _).mono ?_
      rintro e w4 ⟨rfl, hb4⟩
      go_wp2_with fail
      go_ret
      exact ⟨rfl, Hb3.out.trans (hb4.mono Hb3.out.size)⟩

theorem invisible_any (A : Option Addr) (n c : Nat) (raw : List Pl.Ver) (a b : Int) (p : Bool) (w : World) (hn : raw.length = n) (hr : Rd w 3 A n (raw.flatMap fV)) (hm : n ≤ maxLen) (hwf : ∀ v ∈ raw, 0 ≤ v.1) (ha : 0 ≤ a) (hb : 0 ≤ b) :
    Calls Try.prog 7 #[.slice A n c, .int .u64 a, .int .u64 b, .bool p] w fun e w' => e = .returned (.bool true) ∧ Below w.heap.size w w' := by
  obtain ⟨h1, h2, _⟩ := Pl.made_ok raw p
  obtain ⟨L, hL⟩ : ∃ L, Pl.made raw p = L := ⟨_, rfl⟩
  have hv := validRd A n c raw L p w hn hr hm hwf hL
  rw [hL] at h1
  cases hd : Pl.dead L (a % 60) with
  | true => exact inv_dead A n c a b p L w hv (by show L.length ≤ 1000; omega) ha hb hd
  | false =>
    cases L with
    | nil => cases hd
    | cons x L =>
      obtain ⟨s, v, d⟩ := x
      exact inv_live A n c a b p L s v d w hv (by show ((s, v, d) :: L).length ≤ 1000; omega) ha hd
end Go.Proofs.Ythffgfgejggjaaa
