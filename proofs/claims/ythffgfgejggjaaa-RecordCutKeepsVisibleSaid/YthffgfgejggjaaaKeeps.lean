/-
  RecordCutKeepsVisible: the law returns true on every input. (The walk.)
-/
import Derived.Test.YthffgfgejggjaaaCompose
import Derived.Test.YthffgfgejggjaaaInvisible
namespace Go.Proofs.Ythffgfgejggjaaa
open Go.RowKit

theorem old_step (K : List Pl.Ver) (f : Int) (k : Nat) (h : k < K.length) : Pl.old (K.take (k + 1)) f = Pl.old (K.take k) f + if Pl.hit f K[k] = true then 1 else 0 := by
  rw [List.take_succ_eq_append_getElem h]
  unfold Pl.old
  rw [List.countP_append]
  simp
theorem old_take_le (K : List Pl.Ver) (f : Int) (k : Nat) : Pl.old (K.take k) f ≤ k := by
  unfold Pl.old
  have := List.countP_le_length (p := Pl.hit f) (l := K.take k)
  have := List.length_take_le k K
  omega

set_option maxHeartbeats 4000000 in
theorem keeps_core (A : Option Addr) (n c : Nat) (a b : Int) (p : Bool) (L K : List Pl.Ver) (w : World)
    (hv : Hid (Calls Try.prog 9 #[.slice A n c, .bool p] w fun e w' => ∃ A' c', e = .returned (.slice A' L.length c') ∧ Rd w' 3 A' L.length (L.flatMap fV) ∧ L.length ≤ c' ∧ Below w.heap.size w w'))
    (hL : Hid (L.length ≤ 1000)) (ha : 0 ≤ a) (hb : 0 ≤ b) (hK : Hid (Pl.cut L (a % 100) = K)) (hKK : Hid (Pl.cut K (a % 100) = K)) (hchk : Hid (Pl.chk1 K)) (hold : Hid (Pl.old K (a % 100) ≤ 1)) (hKL : K.length ≤ L.length)
    (hvis : Hid (∀ t, a % 100 ≤ t → Pl.vis K t = Pl.vis L t ∧ Pl.seen K t = Pl.seen L t)) :
    Calls Try.prog 3 #[.slice A n c, .int .u64 a, .int .u64 b, .bool p] w fun e w' => e = .returned (.bool true) ∧ Below w.heap.size w w' := by
  have ha2 : a % 100 < 100 := by omega
  obtain ⟨m, hm⟩ : ∃ m, L.length = m := ⟨_, rfl⟩
  obtain ⟨q, hq⟩ : ∃ q, K.length = q := ⟨_, rfl⟩
  have Hm := Lib.hid hm
  have Hq := Lib.hid hq
  have hm1 : m ≤ 1000 := by rw [← hm]; exact hL.out
  have hqm : q ≤ m := by rw [← hm, ← hq]; exact hKL
  rw [hm] at hv
  clear hm hq hL hKL
  go_enter Try.func3, Try.ntmps3
  go_wp2_with fail
  refine hv.out.mono ?_
  rintro e w1 ⟨A1, c1, rfl, hr1, hc1, hb1⟩
  have Hr1 := Lib.hid hr1
  have Hb1 := Lib.hid hb1
  clear hr1 hb1
  go_wp2_with fail
  refine (cutOf A1 m c1 L K _ _ Hm.out Hr1.out hm1 hc1 hK.out).mono ?_
  rintro e w2 ⟨A2, c2, rfl, hr2, hc2, hb2⟩
  rw [Hq.out] at hr2 hc2
  have Hr2 := Lib.hid hr2
  have Hs2 := Lib.hid (Hr1.out.below hb2)
  have Hb2 := Lib.hid (Hb1.out.trans (hb2.mono Hb1.out.size))
  clear hr2 hb2
  rw [Hq.out]
  go_wp2_with fail
  go_loop [11, 12] (fun o i => ∃ k : Nat, k ≤ q ∧ i = .int .i64 k ∧ o = .int .i64 (Pl.old (K.take k) (a % 100))) (fun _ i => q - (intOf i).toNat)
  case atStart => exact ⟨0, Nat.zero_le _, rfl, rfl⟩
  case round =>
    obtain ⟨k, hk, rfl, rfl⟩ := hrel
    have hok := old_take_le K (a % 100) k
    by_cases hlt : k < q
    · obtain ⟨g, off, rfl, hgl, hcell⟩ := Hr2.out.2 (by omega)
      have hkl : k < K.length := by rw [Hq.out]; exact hlt
      obtain ⟨hc0, hc1', hc2'⟩ := cells3 Hq.out hgl hcell (Below.refl _ _) k hkl
      have Hstep := Lib.hid (old_step K (a % 100) k hkl)
      clear hcell
      generalize K[k] = y at hc0 hc1' hc2' Hstep
      generalize Pl.old (K.take k) (a % 100) = o at hok Hstep
      obtain ⟨s, v, d⟩ := y
      dsimp only at hc0 hc1' hc2'
      by_cases h0 : s = 0
      · have hst := Hstep.out
        rw [if_neg (by simp [Pl.hit, h0])] at hst
        have Hst := Lib.hid hst
        subst h0
        clear hst
        go_wp2_with fail
        exact ⟨⟨k + 1, by omega, by go_num, by rw [Hst.out]; rfl⟩, by simp [intOf]; omega⟩
      · have hne : (s != 0) = true := by simpa using h0
        by_cases ht : s ≤ a % 100
        · have hst := Hstep.out
          rw [if_pos (by simp [Pl.hit, h0, ht])] at hst
          have Hst := Lib.hid hst
          clear hst
          go_wp2_with fail
          exact ⟨⟨k + 1, by omega, by go_num, by rw [Hst.out]; go_num⟩, by simp [intOf]; omega⟩
        · have hst := Hstep.out
          rw [if_neg (by simp [Pl.hit, ht])] at hst
          have Hst := Lib.hid hst
          clear hst
          go_wp2_with fail
          exact ⟨⟨k + 1, by omega, by go_num, by rw [Hst.out]; rfl⟩, by simp [intOf]; omega⟩
    · obtain rfl : k = q := by omega
      have ho := hold.out
      have htk : K.take k = K := List.take_of_length_le (by rw [Hq.out]; exact Nat.le_refl _)
      rw [htk] at hok ⊢
      generalize Pl.old K (a % 100) = o at ho hok
      have g1 : decide (1 < (o : Int)) = false := by simp; omega
      have g2 : decide (m < k) = false := by simp; omega
      clear htk
      go_wp2_with fail
      refine (awake_any _).mono ?_
      rintro e w3 ⟨rfl, hb3⟩
      have Hr3 := Lib.hid (Hr2.out.below hb3)
      have Hs3 := Lib.hid (Hs2.out.below hb3)
      have Hb3 := Lib.hid (Hb2.out.trans (hb3.mono Hb2.out.size))
      clear hb3
      go_wp2_with fail
      refine (checkAt A2 k c2 K _ Hq.out Hr3.out (by omega) hchk.out).mono ?_
      rintro e w4 ⟨rfl, hb4⟩
      have Hr4 := Lib.hid (Hr3.out.below hb4)
      have Hs4 := Lib.hid (Hs3.out.below hb4)
      have Hb4 := Lib.hid (Hb3.out.trans (hb4.mono Hb3.out.size))
      clear hb4
      go_wp2_with fail
      refine (cutOf A2 k c2 K K _ _ Hq.out Hr4.out (by omega) hc2 hKK.out).mono ?_
      rintro e w5 ⟨A5, c5, rfl, hr5, _, hb5⟩
      rw [Hq.out] at hr5
      have Hx5 := Lib.hid hr5
      have Hr5 := Lib.hid (Hr4.out.below hb5)
      have Hs5 := Lib.hid (Hs4.out.below hb5)
      have Hb5 := Lib.hid (Hb4.out.trans (hb5.mono Hb4.out.size))
      clear hr5 hb5
      rw [Hq.out]
      go_wp2_with fail
      refine (sameAt A5 A2 k c5 k c2 K K _ Hq.out Hq.out Hx5.out Hr5.out (by omega) (by omega) rfl).mono ?_
      rintro e w6 ⟨rfl, hb6⟩
      have Hr6 := Lib.hid (Hr5.out.below hb6)
      have Hs6 := Lib.hid (Hs5.out.below hb6)
      have Hb6 := Lib.hid (Hb5.out.trans (hb6.mono Hb5.out.size))
      clear hb6
      go_wp2_with fail
      clear hok ho
      go_loopw [85] (fun i wr => ∃ j : Nat, j ≤ 4 ∧ i = .int .i64 j ∧ Below (w6.heap.size + 1) (w6.alloc (.cells #[.int .u64 (a % 100), .int .u64 (a % 100 + b % 50), .int .u64 (a % 100 + 200), .int .u64 18446744073709551615] 23)) wr) (fun i _ => 4 - (intOf i).toNat)
      case atStart => exact ⟨0, by omega, rfl, Below.refl _ _⟩
      case round =>
        obtain ⟨j, hj, rfl, hbel⟩ := hrel
        have hbr := below_of' hbel
        have Hbr := Lib.hid (Hb6.out.trans (hbr.mono Hb6.out.size))
        have Hrr := Lib.hid (Hr6.out.below hbr)
        have Hsr := Lib.hid (Hs6.out.below hbr)
        clear hbr
        by_cases hlt4 : j < 4
        · have hall : ∃ t, wr.cell? ⟨w6.heap.size, j, none⟩ = some (.int .u64 t) ∧ a % 100 ≤ t := by
            have h : ∀ i, wr.cell? ⟨w6.heap.size, i, none⟩ = #[Value.int .u64 (a % 100), .int .u64 (a % 100 + b % 50), .int .u64 (a % 100 + 200), .int .u64 18446744073709551615][i]? := fun i => by
              rw [hbel.cell (p := ⟨w6.heap.size, i, none⟩) (by simp), World.cell?_alloc_at _ _ _ _ rfl]
            match j, hlt4 with
            | 0, _ => exact ⟨_, h 0, Int.le_refl _⟩
            | 1, _ => exact ⟨_, h 1, by omega⟩
            | 2, _ => exact ⟨_, h 2, by omega⟩
            | 3, _ => exact ⟨_, h 3, by omega⟩
          obtain ⟨t, hct, ht⟩ := hall
          obtain ⟨hv1, hv2⟩ := hvis.out t ht
          obtain ⟨x, hx⟩ : ∃ x, Pl.vis L t = x := ⟨_, rfl⟩
          obtain ⟨z, hz⟩ : ∃ z, Pl.seen L t = z := ⟨_, rfl⟩
          rw [hx] at hv1
          rw [hz] at hv2
          have Hx := Lib.hid hx
          have Hz := Lib.hid hz
          have Hv1 := Lib.hid hv1
          have Hv2 := Lib.hid hv2
          obtain ⟨xs, xv, xd⟩ := x
          clear hx hz hv1 hv2 ht hlt
          go_wp2_with fail
          refine (visAt A1 m c1 L t _ (xs, xv, xd) z Hm.out Hsr.out hm1 Hx.out Hz.out).mono ?_
          rintro e w7 ⟨rfl, hb7⟩
          have Hr7 := Lib.hid ((Hrr.out.below hb7).below ((Below.refl _ _).alloc (Nat.le_refl _) (.cells #[.int .u64 xs, .string xv, .bool xd] 27)))
          have Hb7 := Lib.hid hb7
          have hct7 : w7.cell? ⟨w6.heap.size, j, none⟩ = some (.int .u64 t) := (hb7.cell (p := ⟨w6.heap.size, j, none⟩) (by have := hbel.size; simp at this; exact this)).trans hct
          clear hb7
          go_wp2_with fail
          refine (visAt A2 k c2 K t _ (xs, xv, xd) z Hq.out Hr7.out (by omega) Hv1.out Hv2.out).mono ?_
          rintro e w8 ⟨rfl, hb8⟩
          obtain ⟨r0, r1, r2, _, _, _, hl8⟩ := box3 hb8
          have Hb8 := Lib.hid (below_of hb8)
          have hq' : ∀ W, (binOp .neq 27 (.agg #[.int .u64 xs, .string xv, .bool xd]) (.agg #[.int .u64 xs, .string xv, .bool xd])).run Try.prog W = .ok (.bool false) W := fun W => by rw [neq_ver]; simp
          clear hb8
          have hz6 : w6.heap.size + 1 ≤ wr.heap.size := by have := hbel.size; simpa using this
          have hfin : Below (w6.heap.size + 1) (w6.alloc (.cells #[.int .u64 (a % 100), .int .u64 (a % 100 + b % 50), .int .u64 (a % 100 + 200), .int .u64 18446744073709551615] 23)) (w8.alloc (.cells #[.int .u64 xs, .string xv, .bool xd] 27)) :=
            ((hbel.trans (Hb7.out.mono hz6)).trans (Hb8.out.mono (Nat.le_trans hz6 Hb7.out.size))).alloc (Nat.le_trans (Nat.le_trans hz6 Hb7.out.size) Hb8.out.size) _
          have Hfin := Lib.hid hfin
          clear hfin hz6
          go_wp2_with fail
          exact ⟨⟨j + 1, by omega, by go_num, Hfin.out⟩, by simp [intOf]; omega⟩
        · obtain rfl : j = 4 := by omega
          go_wp2_with fail
          go_ret
          exact ⟨rfl, Hbr.out⟩

theorem keeps_any (A : Option Addr) (n c : Nat) (raw : List Pl.Ver) (a b : Int) (p : Bool) (w : World) (hn : raw.length = n) (hr : Rd w 3 A n (raw.flatMap fV)) (hm : n ≤ maxLen) (hwf : ∀ v ∈ raw, 0 ≤ v.1) (ha : 0 ≤ a) (hb : 0 ≤ b) :
    Calls Try.prog 3 #[.slice A n c, .int .u64 a, .int .u64 b, .bool p] w fun e w' => e = .returned (.bool true) ∧ Below w.heap.size w w' := by
  obtain ⟨h1, h2, _⟩ := Pl.made_ok raw p
  have hv := validRd A n c raw (Pl.made raw p) p w hn hr hm hwf rfl
  exact keeps_core A n c a b p _ _ w hv (by show (Pl.made raw p).length ≤ 1000; omega) ha hb rfl (Pl.cut_cut _ (Int.le_refl _)) (h2.cut _).chk (Pl.old_cut _ _) (by rw [Pl.cut_len]; omega) (fun t ht => Pl.vis_cut _ ht)
end Go.Proofs.Ythffgfgejggjaaa
