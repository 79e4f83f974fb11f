/-
  RecordAgrees: the law returns true on every input. (The walk.)
-/
import Derived.Test.YthffgfgejggjaaaRefs2
import Derived.Test.YthffgfgejggjaaaCompose
import Derived.Test.YthffgfgejggjaaaCopy
namespace Go.Proofs.Ythffgfgejggjaaa
open Go.RowKit

set_option maxHeartbeats 1000000 in
theorem same64 (A B : Option Addr) (n c d : Nat) (T : List Int) (w : World) (hn : T.length = n) (hr : Rd w 1 A n (T.map (Value.int .u64))) (hs : Rd w 1 B n (T.map (Value.int .u64))) (hb : n ≤ 1000) :
    Calls Try.prog 22 #[.slice A n c, .slice B n d] w fun e w' => e = .returned (.bool true) ∧ Below w.heap.size w w' := by
  have hn' := Lib.hid hn
  go_enter Try.func22, Try.ntmps22
  clear hn
  go_wp2_with fail
  go_loopw [5] (fun i wr => ∃ k : Nat, k ≤ n ∧ i = .int .i64 k ∧ Below w.heap.size w wr) (fun i _ => n - (intOf i).toNat)
  case atStart => exact ⟨0, Nat.zero_le _, rfl, Below.refl _ _⟩
  case round =>
    obtain ⟨k, hk, rfl, hbel⟩ := hrel
    by_cases hlt : k < n
    · obtain ⟨b, off, rfl, hbl, hcell⟩ := hr.2 (by omega)
      obtain ⟨b', off', rfl, hbl', hcell'⟩ := hs.2 (by omega)
      have hkl : k < T.length := by rw [hn'.out]; exact hlt
      have hc0 : wr.cell? ⟨b, off + k, none⟩ = some (.int .u64 T[k]) := by
        rw [hbel.cell (p := ⟨b, off + k, none⟩) hbl, hcell _ (by omega)]; simp [hkl]
      have hc1 : wr.cell? ⟨b', off' + k, none⟩ = some (.int .u64 T[k]) := by
        rw [hbel.cell (p := ⟨b', off' + k, none⟩) hbl', hcell' _ (by omega)]; simp [hkl]
      clear hcell hcell' hr hs
      generalize T[k] = x at hc0 hc1
      go_wp2_with fail
      go_quiet (fail)
      go_wp2_with fail
      exact ⟨⟨k + 1, by omega, by go_num, bel_drewN hbel _⟩, by simp [intOf]; omega⟩
    · obtain rfl : k = n := by omega
      go_wp2_with fail
      go_ret
      exact ⟨rfl, hbel⟩

/-- All that one round asks of one chain, at one time: the callees' contracts, in the law's order. -/
theorem refVisOf (A : Option Addr) (n c : Nat) (l : List Pl.Ver) (t : Int) (w : World) (x : Pl.Ver) (b : Bool) (hn : l.length = n) (hr : Rd w 3 A n (l.flatMap fV)) (hb : n ≤ 1000) (hx : Pl.vis l t = x) (hs : Pl.seen l t = b) :
    Calls Try.prog 17 #[.slice A n c, .int .u64 t] w fun e w' => e = .returned (.tuple #[.agg #[.int .u64 x.1, .string x.2.1, .bool x.2.2], .bool b]) ∧ Below w.heap.size w w' := refVisAt A n c l t w x b hn hr hb hx hs
theorem valOf (A : Option Addr) (n c : Nat) (l : List Pl.Ver) (t : Int) (w : World) (s : ByteArray) (b : Bool) (hn : l.length = n) (hr : Rd w 3 A n (l.flatMap fV)) (hb : n ≤ 1000) (hx : Pl.val l t = s) (hs : Pl.has l t = b) :
    Calls Try.prog 16 #[.slice A n c, .int .u64 t] w fun e w' => e = .returned (.tuple #[.string s, .bool b]) ∧ Below w.heap.size w w' := by
  subst hx; subst hs; exact value_any A n c l t w hn hr hb
theorem refValOf (A : Option Addr) (n c : Nat) (l : List Pl.Ver) (t : Int) (w : World) (s : ByteArray) (b : Bool) (hn : l.length = n) (hr : Rd w 3 A n (l.flatMap fV)) (hb : n ≤ 1000) (hx : Pl.val l t = s) (hs : Pl.has l t = b) :
    Calls Try.prog 18 #[.slice A n c, .int .u64 t] w fun e w' => e = .returned (.tuple #[.string s, .bool b]) ∧ Below w.heap.size w w' := by
  subst hx; subst hs; exact refValue_any A n c l t w hn hr hb
theorem chkOf (A : Option Addr) (n c : Nat) (l : List Pl.Ver) (b : Bool) (w : World) (hn : l.length = n) (hr : Rd w 3 A n (l.flatMap fV)) (hb : n ≤ 1000) (h : decide (Pl.chk1 l) = b) :
    Calls Try.prog 12 #[.slice A n c] w fun e w' => e = .returned (.bool b) ∧ Below w.heap.size w w' := by
  subst h; exact check_any A n c l w hn hr hb
theorem refChkOf (A : Option Addr) (n c : Nat) (l : List Pl.Ver) (b : Bool) (w : World) (hn : l.length = n) (hr : Rd w 3 A n (l.flatMap fV)) (hb : n ≤ 1000) (h : decide (Pl.chk1 l) = b) :
    Calls Try.prog 19 #[.slice A n c] w fun e w' => e = .returned (.bool b) ∧ Below w.heap.size w w' := by
  subst h; exact refCheck_any A n c l w hn hr hb
theorem refCutOf (A : Option Addr) (n c : Nat) (l K : List Pl.Ver) (t : Int) (w : World) (hn : l.length = n) (hr : Rd w 3 A n (l.flatMap fV)) (hb : n ≤ 1000) (hnc : n ≤ c) (hK : Pl.cut l t = K) :
    Calls Try.prog 20 #[.slice A n c, .int .u64 t] w fun e w' => ∃ A' c', e = .returned (.slice A' K.length c') ∧ Rd w' 3 A' K.length (K.flatMap fV) ∧ K.length ≤ c' ∧ Below w.heap.size w w' := by
  subst hK
  refine (refCut_any A n c l t w hn hr hb hnc).mono ?_
  rintro e w' ⟨u, rfl, hown, hb⟩
  obtain ⟨A', c', rfl, h1, _⟩ := own_slice hown
  exact ⟨A', c', rfl, Rd.of_own hown, h1, hb⟩
theorem refDeadOf (A : Option Addr) (n c : Nat) (l : List Pl.Ver) (t : Int) (b : Bool) (w : World) (hn : l.length = n) (hr : Rd w 3 A n (l.flatMap fV)) (hb : n ≤ 1000) (h : Pl.dead l t = b) :
    Calls Try.prog 21 #[.slice A n c, .int .u64 t] w fun e w' => e = .returned (.bool b) ∧ Below w.heap.size w w' := by
  subst h; exact refDead_any A n c l t w hn hr hb
theorem timesOf (A : Option Addr) (n c : Nat) (l : List Pl.Ver) (T : List Int) (w : World) (hn : l.length = n) (hr : Rd w 3 A n (l.flatMap fV)) (hb : n ≤ 1000) (h : tm l = T) :
    Calls Try.prog 23 #[.slice A n c] w fun e w' => ∃ A' c', e = .returned (.slice A' T.length c') ∧ Rd w' 1 A' T.length (T.map (Value.int .u64)) ∧ Below w.heap.size w w' := by
  subst h; exact times_any A n c l w hn hr hb
theorem refTimesOf (A : Option Addr) (n c : Nat) (l : List Pl.Ver) (T : List Int) (w : World) (hn : l.length = n) (hr : Rd w 3 A n (l.flatMap fV)) (hb : n ≤ 1000) (h : tm l = T) :
    Calls Try.prog 24 #[.slice A n c] w fun e w' => ∃ A' c', e = .returned (.slice A' T.length c') ∧ Rd w' 1 A' T.length (T.map (Value.int .u64)) ∧ Below w.heap.size w w' := by
  subst h; exact refTimes_any A n c l w hn hr hb

set_option maxHeartbeats 1000000 in
theorem agrees_long (A : Option Addr) (n c : Nat) (t : Int) (p : Bool) (w : World) (hm : n ≤ maxLen) (h : 60 < n) :
    Calls Try.prog 8 #[.slice A n c, .int .u64 t, .bool p] w fun e w' => e = .returned (.bool true) ∧ Below w.heap.size w w' := by
  unfold maxLen at hm
  go_enter Try.func8, Try.ntmps8
  go_wp2_with fail
  refine (awake_any _).mono ?_
  rintro e w1 ⟨rfl, hb1⟩
  go_wp2_with fail
  go_ret
  exact ⟨rfl, hb1⟩

set_option maxHeartbeats 16000000 in
set_option maxRecDepth 100000 in
theorem agrees_short (A : Option Addr) (n c : Nat) (raw L : List Pl.Ver) (t : Int) (p : Bool) (w : World) (hn : raw.length = n) (hr : Rd w 3 A n (raw.flatMap fV)) (hm : n ≤ 60) (hnc : n ≤ c) (ht : 0 ≤ t)
    (hv : Hid (∀ W, Rd W 3 A n (raw.flatMap fV) → Calls Try.prog 9 #[.slice A n c, .bool p] W fun e w' => ∃ A' c', e = .returned (.slice A' L.length c') ∧ Rd w' 3 A' L.length (L.flatMap fV) ∧ L.length ≤ c' ∧ Below W.heap.size W w'))
    (hL : Hid (L.length ≤ 30 ∧ Pl.chk1 L)) :
    Calls Try.prog 8 #[.slice A n c, .int .u64 t, .bool p] w fun e w' => e = .returned (.bool true) ∧ Below w.heap.size w w' := by
  obtain ⟨i0, hi, hz0, hz1, hz2⟩ := info_parts Try.info27
  have Hn0 := Lib.hid hn
  have Hr0 := Lib.hid hr
  clear hn hr
  go_enter Try.func8, Try.ntmps8
  go_wp2_with fail
  go_loopw [1, 7] (fun x i wr => ∃ (j : Nat) (t : Int), j ≤ 3 ∧ i = .int .i64 j ∧ x = .int .u64 t ∧ 0 ≤ t ∧ Below w.heap.size w wr) (fun _ i _ => 3 - (intOf i).toNat)
  case atStart => exact ⟨0, _, by omega, rfl, rfl, ht, Below.refl _ _⟩
  case round =>
    clear ht
    obtain ⟨j, t, hj, rfl, rfl, ht, hbel⟩ := hrel
    have Hbel := Lib.hid hbel
    have Hrr := Lib.hid (Hr0.out.below hbel)
    clear hbel
    by_cases hlt : j < 3
    · -- the chain of this round
      obtain ⟨t', ht'⟩ : ∃ t' : Int, (j = 0 ∧ t' = t) ∨ (0 < j ∧ t' = t % 100) := by
        rcases Nat.eq_zero_or_pos j with h | h
        · exact ⟨t, .inl ⟨h, rfl⟩⟩
        · exact ⟨t % 100, .inr ⟨h, rfl⟩⟩
      rcases ht' with ⟨rfl, rfl⟩ | ⟨h0, ht2⟩
      · go_wp2_with (at_builtin; refine wpList_append_copy rfl (.const (.slice none 0 0)) (.tmp 34) 22 rfl 27 i0 _ 3 32 Try.underlying22 hi hz0 hz1 hz2 rfl (by decide) rfl A n c (raw.flatMap fV) rfl Hrr.out (one_fV raw) (by unfold maxLen; omega) (by omega) ?_; intro A9 c9 w9 hown9 hb9 hc9)
        have Hs9 := Lib.hid (Hrr.out.below hb9)
        have Hw9 := Lib.hid (Rd.of_own hown9)
        have Hb9 := Lib.hid (Hbel.out.trans (hb9.mono Hbel.out.size))
        clear hown9 hb9 hc9
        obtain ⟨x, hx⟩ : ∃ x, Pl.vis raw (t') = x := ⟨_, rfl⟩
        obtain ⟨z, hz⟩ : ∃ z, Pl.seen raw (t') = z := ⟨_, rfl⟩
        obtain ⟨vs, hvs⟩ : ∃ s, Pl.val raw (t') = s := ⟨_, rfl⟩
        obtain ⟨vb, hvb⟩ : ∃ s, Pl.has raw (t') = s := ⟨_, rfl⟩
        obtain ⟨ck, hck⟩ : ∃ b, decide (Pl.chk1 raw) = b := ⟨_, rfl⟩
        obtain ⟨K, hK⟩ : ∃ K, Pl.cut raw (t') = K := ⟨_, rfl⟩
        obtain ⟨dd, hdd⟩ : ∃ b, Pl.dead raw (t') = b := ⟨_, rfl⟩
        obtain ⟨T, hT⟩ : ∃ T, tm raw = T := ⟨_, rfl⟩
        have hKl : K.length ≤ 1000 := by rw [← hK, Pl.cut_len, Hn0.out]; omega
        have hTl : T.length ≤ 1000 := by rw [← hT]; have := tm_len raw n; rw [List.take_of_length_le (by rw [Hn0.out]; exact Nat.le_refl _)] at this; omega
        have Hx := Lib.hid hx
        have Hz := Lib.hid hz
        have Hvs := Lib.hid hvs
        have Hvb := Lib.hid hvb
        have Hck := Lib.hid hck
        have HK := Lib.hid hK
        have Hdd := Lib.hid hdd
        have HT := Lib.hid hT
        clear hx hz hvs hvb hck hK hdd hT
        obtain ⟨xs, xv, xd⟩ := x
        go_wp2_with fail
        refine (visAt A n c raw (t') _ (xs, xv, xd) z Hn0.out Hs9.out (by omega) Hx.out Hz.out).mono ?_
        rintro e w10 ⟨rfl, hb10⟩
        have hc10 := hb10.alloc hb10.size (.cells #[.int .u64 xs, .string xv, .bool xd] 27)
        have Hs10 := Lib.hid (Hs9.out.below hc10)
        have Hw10 := Lib.hid (Hw9.out.below hc10)
        have Hb10 := Lib.hid (Hb9.out.trans (hc10.mono Hb9.out.size))
        clear hb10 hc10
        go_wp2_with fail
        refine (refVisOf A n c raw (t') _ (xs, xv, xd) z Hn0.out Hs10.out (by omega) Hx.out Hz.out).mono ?_
        rintro e w11 ⟨rfl, hb11⟩
        have hc11 := hb11.alloc hb11.size (.cells #[.int .u64 xs, .string xv, .bool xd] 27)
        have Hq11 := Lib.hid hc11
        have Hs11 := Lib.hid (Hs10.out.below hc11)
        have Hw11 := Lib.hid (Hw10.out.below hc11)
        have Hb11 := Lib.hid (Hb10.out.trans (hc11.mono Hb10.out.size))
        clear hb11 hc11
        go_wp2_with fail
        refine (valOf A n c raw (t') _ vs vb Hn0.out Hs11.out (by omega) Hvs.out Hvb.out).mono ?_
        rintro e w12 ⟨rfl, hb12⟩
        have Hq12 := Lib.hid hb12
        have Hs12 := Lib.hid (Hs11.out.below hb12)
        have Hw12 := Lib.hid (Hw11.out.below hb12)
        have Hb12 := Lib.hid (Hb11.out.trans (hb12.mono Hb11.out.size))
        clear hb12
        go_wp2_with fail
        refine (refValOf A n c raw (t') _ vs vb Hn0.out Hs12.out (by omega) Hvs.out Hvb.out).mono ?_
        rintro e w13 ⟨rfl, hb13⟩
        have hq13 := Hq12.out.trans (hb13.mono Hq12.out.size)
        obtain ⟨r0, r1, r2, _, _, _, _⟩ := box3 (Hq11.out.trans (hq13.mono Hq11.out.size))
        obtain ⟨s0, s1, s2, _, _, _, _⟩ := box3 hq13
        have hq : ∀ W, (binOp .neq 27 (.agg #[.int .u64 xs, .string xv, .bool xd]) (.agg #[.int .u64 xs, .string xv, .bool xd])).run Try.prog W = .ok (.bool false) W := fun W => by rw [neq_ver]; simp
        have Hs13 := Lib.hid (Hs12.out.below hb13)
        have Hw13 := Lib.hid (Hw12.out.below hb13)
        have Hb13 := Lib.hid (Hb12.out.trans (hb13.mono Hb12.out.size))
        clear hb13 hq13
        go_wp2_with fail
        refine (chkOf A n c raw ck _ Hn0.out Hs13.out (by omega) Hck.out).mono ?_
        rintro e w14 ⟨rfl, hb14⟩
        clear hq r0 r1 r2 s0 s1 s2
        have Hs14 := Lib.hid (Hs13.out.below hb14)
        have Hw14 := Lib.hid (Hw13.out.below hb14)
        have Hb14 := Lib.hid (Hb13.out.trans (hb14.mono Hb13.out.size))
        clear hb14
        go_wp2_with fail
        refine (refChkOf A n c raw ck _ Hn0.out Hs14.out (by omega) Hck.out).mono ?_
        rintro e w15 ⟨rfl, hb15⟩
        have Hs15 := Lib.hid (Hs14.out.below hb15)
        have Hw15 := Lib.hid (Hw14.out.below hb15)
        have Hb15 := Lib.hid (Hb14.out.trans (hb15.mono Hb14.out.size))
        clear hb15
        go_wp2_with fail
        refine (cutOf A n c raw K (t') _ Hn0.out Hs15.out (by omega) hnc HK.out).mono ?_
        rintro e w16 ⟨A16, c16, rfl, hr16, _, hb16⟩
        have Hk16 := Lib.hid hr16
        have Hs16 := Lib.hid (Hs15.out.below hb16)
        have Hw16 := Lib.hid (Hw15.out.below hb16)
        have Hb16 := Lib.hid (Hb15.out.trans (hb16.mono Hb15.out.size))
        clear hb16 hr16
        go_wp2_with fail
        refine (refCutOf A n c raw K (t') _ Hn0.out Hs16.out (by omega) hnc HK.out).mono ?_
        rintro e w17 ⟨A17, c17, rfl, hr17, _, hb17⟩
        have Hk17 := Lib.hid hr17
        have Hj17 := Lib.hid (Hk16.out.below hb17)
        have Hs17 := Lib.hid (Hs16.out.below hb17)
        have Hw17 := Lib.hid (Hw16.out.below hb17)
        have Hb17 := Lib.hid (Hb16.out.trans (hb17.mono Hb16.out.size))
        clear hb17 hr17
        go_wp2_with fail
        refine (sameAt A16 A17 K.length c16 K.length c17 K K _ rfl rfl Hj17.out Hk17.out hKl hKl rfl).mono ?_
        rintro e w18 ⟨rfl, hb18⟩
        have Hs18 := Lib.hid (Hs17.out.below hb18)
        have Hw18 := Lib.hid (Hw17.out.below hb18)
        have Hb18 := Lib.hid (Hb17.out.trans (hb18.mono Hb17.out.size))
        clear hb18
        go_wp2_with fail
        refine (deadAt A n c raw (t') dd _ Hn0.out Hs18.out (by omega) Hdd.out).mono ?_
        rintro e w19 ⟨rfl, hb19⟩
        have Hs19 := Lib.hid (Hs18.out.below hb19)
        have Hw19 := Lib.hid (Hw18.out.below hb19)
        have Hb19 := Lib.hid (Hb18.out.trans (hb19.mono Hb18.out.size))
        clear hb19
        go_wp2_with fail
        refine (refDeadOf A n c raw (t') dd _ Hn0.out Hs19.out (by omega) Hdd.out).mono ?_
        rintro e w20 ⟨rfl, hb20⟩
        have Hs20 := Lib.hid (Hs19.out.below hb20)
        have Hw20 := Lib.hid (Hw19.out.below hb20)
        have Hb20 := Lib.hid (Hb19.out.trans (hb20.mono Hb19.out.size))
        clear hb20
        go_wp2_with fail
        refine (timesOf A n c raw T _ Hn0.out Hs20.out (by omega) HT.out).mono ?_
        rintro e w21 ⟨A21, c21, rfl, hr21, hb21⟩
        have Hk21 := Lib.hid hr21
        have Hs21 := Lib.hid (Hs20.out.below hb21)
        have Hw21 := Lib.hid (Hw20.out.below hb21)
        have Hb21 := Lib.hid (Hb20.out.trans (hb21.mono Hb20.out.size))
        clear hb21 hr21
        go_wp2_with fail
        refine (refTimesOf A n c raw T _ Hn0.out Hs21.out (by omega) HT.out).mono ?_
        rintro e w22 ⟨A22, c22, rfl, hr22, hb22⟩
        have Hk22 := Lib.hid hr22
        have Hj22 := Lib.hid (Hk21.out.below hb22)
        have Hs22 := Lib.hid (Hs21.out.below hb22)
        have Hw22 := Lib.hid (Hw21.out.below hb22)
        have Hb22 := Lib.hid (Hb21.out.trans (hb22.mono Hb21.out.size))
        clear hb22 hr22
        go_wp2_with fail
        refine (same64 A21 A22 T.length c21 c22 T _ rfl Hj22.out Hk22.out hTl).mono ?_
        rintro e w23 ⟨rfl, hb23⟩
        have Hs23 := Lib.hid (Hs22.out.below hb23)
        have Hw23 := Lib.hid (Hw22.out.below hb23)
        have Hb23 := Lib.hid (Hb22.out.trans (hb23.mono Hb22.out.size))
        clear hb23
        go_wp2_with fail
        refine (sameAt A A9 n c n c9 raw raw _ Hn0.out Hn0.out Hs23.out Hw23.out (by omega) (by omega) rfl).mono ?_
        rintro e w24 ⟨rfl, hb24⟩
        have Hb24 := Lib.hid (Hb23.out.trans (hb24.mono Hb23.out.size))
        clear hb24
        go_wp2_with fail
        exact ⟨⟨0 + 1, t' % 40, by omega, by go_num, rfl, by omega, Hb24.out⟩, by simp [intOf]⟩
      · clear ht2 t'
        have hLl : L.length ≤ 30 := hL.out.1
        go_wp2_with fail
        refine (hv.out _ Hrr.out).mono ?_
        rintro e w1 ⟨A1, c1, rfl, hr1, hc1, hb1⟩
        have Hr1 := Lib.hid hr1
        have Hb1 := Lib.hid (Hbel.out.trans (hb1.mono Hbel.out.size))
        clear hr1 hb1
        go_wp2_with (at_builtin; refine wpList_append_copy rfl (.const (.slice none 0 0)) (.tmp 34) 22 rfl 27 i0 _ 3 32 Try.underlying22 hi hz0 hz1 hz2 rfl (by decide) rfl A1 L.length c1 (L.flatMap fV) rfl Hr1.out (one_fV L) (by unfold maxLen; omega) (by omega) ?_; intro A9 c9 w9 hown9 hb9 hc9)
        have Hs9 := Lib.hid (Hr1.out.below hb9)
        have Hw9 := Lib.hid (Rd.of_own hown9)
        have Hb9 := Lib.hid (Hb1.out.trans (hb9.mono Hb1.out.size))
        clear hown9 hb9 hc9
        obtain ⟨x, hx⟩ : ∃ x, Pl.vis L (t % 100) = x := ⟨_, rfl⟩
        obtain ⟨z, hz⟩ : ∃ z, Pl.seen L (t % 100) = z := ⟨_, rfl⟩
        obtain ⟨vs, hvs⟩ : ∃ s, Pl.val L (t % 100) = s := ⟨_, rfl⟩
        obtain ⟨vb, hvb⟩ : ∃ s, Pl.has L (t % 100) = s := ⟨_, rfl⟩
        obtain ⟨ck, hck⟩ : ∃ b, decide (Pl.chk1 L) = b := ⟨_, rfl⟩
        obtain ⟨K, hK⟩ : ∃ K, Pl.cut L (t % 100) = K := ⟨_, rfl⟩
        obtain ⟨dd, hdd⟩ : ∃ b, Pl.dead L (t % 100) = b := ⟨_, rfl⟩
        obtain ⟨T, hT⟩ : ∃ T, tm L = T := ⟨_, rfl⟩
        have hKl : K.length ≤ 1000 := by rw [← hK, Pl.cut_len]; omega
        have hTl : T.length ≤ 1000 := by rw [← hT]; have := tm_len L L.length; rw [List.take_of_length_le (Nat.le_refl _)] at this; omega
        have Hx := Lib.hid hx
        have Hz := Lib.hid hz
        have Hvs := Lib.hid hvs
        have Hvb := Lib.hid hvb
        have Hck := Lib.hid hck
        have HK := Lib.hid hK
        have Hdd := Lib.hid hdd
        have HT := Lib.hid hT
        clear hx hz hvs hvb hck hK hdd hT
        obtain ⟨xs, xv, xd⟩ := x
        go_wp2_with fail
        refine (visAt A1 L.length c1 L (t % 100) _ (xs, xv, xd) z rfl Hs9.out (by omega) Hx.out Hz.out).mono ?_
        rintro e w10 ⟨rfl, hb10⟩
        have hc10 := hb10.alloc hb10.size (.cells #[.int .u64 xs, .string xv, .bool xd] 27)
        have Hs10 := Lib.hid (Hs9.out.below hc10)
        have Hw10 := Lib.hid (Hw9.out.below hc10)
        have Hb10 := Lib.hid (Hb9.out.trans (hc10.mono Hb9.out.size))
        clear hb10 hc10
        go_wp2_with fail
        refine (refVisOf A1 L.length c1 L (t % 100) _ (xs, xv, xd) z rfl Hs10.out (by omega) Hx.out Hz.out).mono ?_
        rintro e w11 ⟨rfl, hb11⟩
        have hc11 := hb11.alloc hb11.size (.cells #[.int .u64 xs, .string xv, .bool xd] 27)
        have Hq11 := Lib.hid hc11
        have Hs11 := Lib.hid (Hs10.out.below hc11)
        have Hw11 := Lib.hid (Hw10.out.below hc11)
        have Hb11 := Lib.hid (Hb10.out.trans (hc11.mono Hb10.out.size))
        clear hb11 hc11
        go_wp2_with fail
        refine (valOf A1 L.length c1 L (t % 100) _ vs vb rfl Hs11.out (by omega) Hvs.out Hvb.out).mono ?_
        rintro e w12 ⟨rfl, hb12⟩
        have Hq12 := Lib.hid hb12
        have Hs12 := Lib.hid (Hs11.out.below hb12)
        have Hw12 := Lib.hid (Hw11.out.below hb12)
        have Hb12 := Lib.hid (Hb11.out.trans (hb12.mono Hb11.out.size))
        clear hb12
        go_wp2_with fail
        refine (refValOf A1 L.length c1 L (t % 100) _ vs vb rfl Hs12.out (by omega) Hvs.out Hvb.out).mono ?_
        rintro e w13 ⟨rfl, hb13⟩
        have hq13 := Hq12.out.trans (hb13.mono Hq12.out.size)
        obtain ⟨r0, r1, r2, _, _, _, _⟩ := box3 (Hq11.out.trans (hq13.mono Hq11.out.size))
        obtain ⟨s0, s1, s2, _, _, _, _⟩ := box3 hq13
        have hq : ∀ W, (binOp .neq 27 (.agg #[.int .u64 xs, .string xv, .bool xd]) (.agg #[.int .u64 xs, .string xv, .bool xd])).run Try.prog W = .ok (.bool false) W := fun W => by rw [neq_ver]; simp
        have Hs13 := Lib.hid (Hs12.out.below hb13)
        have Hw13 := Lib.hid (Hw12.out.below hb13)
        have Hb13 := Lib.hid (Hb12.out.trans (hb13.mono Hb12.out.size))
        clear hb13 hq13
        go_wp2_with fail
        refine (chkOf A1 L.length c1 L ck _ rfl Hs13.out (by omega) Hck.out).mono ?_
        rintro e w14 ⟨rfl, hb14⟩
        clear hq r0 r1 r2 s0 s1 s2
        have Hs14 := Lib.hid (Hs13.out.below hb14)
        have Hw14 := Lib.hid (Hw13.out.below hb14)
        have Hb14 := Lib.hid (Hb13.out.trans (hb14.mono Hb13.out.size))
        clear hb14
        go_wp2_with fail
        refine (refChkOf A1 L.length c1 L ck _ rfl Hs14.out (by omega) Hck.out).mono ?_
        rintro e w15 ⟨rfl, hb15⟩
        have Hs15 := Lib.hid (Hs14.out.below hb15)
        have Hw15 := Lib.hid (Hw14.out.below hb15)
        have Hb15 := Lib.hid (Hb14.out.trans (hb15.mono Hb14.out.size))
        clear hb15
        go_wp2_with fail
        refine (cutOf A1 L.length c1 L K (t % 100) _ rfl Hs15.out (by omega) hc1 HK.out).mono ?_
        rintro e w16 ⟨A16, c16, rfl, hr16, _, hb16⟩
        have Hk16 := Lib.hid hr16
        have Hs16 := Lib.hid (Hs15.out.below hb16)
        have Hw16 := Lib.hid (Hw15.out.below hb16)
        have Hb16 := Lib.hid (Hb15.out.trans (hb16.mono Hb15.out.size))
        clear hb16 hr16
        go_wp2_with fail
        refine (refCutOf A1 L.length c1 L K (t % 100) _ rfl Hs16.out (by omega) hc1 HK.out).mono ?_
        rintro e w17 ⟨A17, c17, rfl, hr17, _, hb17⟩
        have Hk17 := Lib.hid hr17
        have Hj17 := Lib.hid (Hk16.out.below hb17)
        have Hs17 := Lib.hid (Hs16.out.below hb17)
        have Hw17 := Lib.hid (Hw16.out.below hb17)
        have Hb17 := Lib.hid (Hb16.out.trans (hb17.mono Hb16.out.size))
        clear hb17 hr17
        go_wp2_with fail
        refine (sameAt A16 A17 K.length c16 K.length c17 K K _ rfl rfl Hj17.out Hk17.out hKl hKl rfl).mono ?_
        rintro e w18 ⟨rfl, hb18⟩
        have Hs18 := Lib.hid (Hs17.out.below hb18)
        have Hw18 := Lib.hid (Hw17.out.below hb18)
        have Hb18 := Lib.hid (Hb17.out.trans (hb18.mono Hb17.out.size))
        clear hb18
        go_wp2_with fail
        refine (deadAt A1 L.length c1 L (t % 100) dd _ rfl Hs18.out (by omega) Hdd.out).mono ?_
        rintro e w19 ⟨rfl, hb19⟩
        have Hs19 := Lib.hid (Hs18.out.below hb19)
        have Hw19 := Lib.hid (Hw18.out.below hb19)
        have Hb19 := Lib.hid (Hb18.out.trans (hb19.mono Hb18.out.size))
        clear hb19
        go_wp2_with fail
        refine (refDeadOf A1 L.length c1 L (t % 100) dd _ rfl Hs19.out (by omega) Hdd.out).mono ?_
        rintro e w20 ⟨rfl, hb20⟩
        have Hs20 := Lib.hid (Hs19.out.below hb20)
        have Hw20 := Lib.hid (Hw19.out.below hb20)
        have Hb20 := Lib.hid (Hb19.out.trans (hb20.mono Hb19.out.size))
        clear hb20
        go_wp2_with fail
        refine (timesOf A1 L.length c1 L T _ rfl Hs20.out (by omega) HT.out).mono ?_
        rintro e w21 ⟨A21, c21, rfl, hr21, hb21⟩
        have Hk21 := Lib.hid hr21
        have Hs21 := Lib.hid (Hs20.out.below hb21)
        have Hw21 := Lib.hid (Hw20.out.below hb21)
        have Hb21 := Lib.hid (Hb20.out.trans (hb21.mono Hb20.out.size))
        clear hb21 hr21
        go_wp2_with fail
        refine (refTimesOf A1 L.length c1 L T _ rfl Hs21.out (by omega) HT.out).mono ?_
        rintro e w22 ⟨A22, c22, rfl, hr22, hb22⟩
        have Hk22 := Lib.hid hr22
        have Hj22 := Lib.hid (Hk21.out.below hb22)
        have Hs22 := Lib.hid (Hs21.out.below hb22)
        have Hw22 := Lib.hid (Hw21.out.below hb22)
        have Hb22 := Lib.hid (Hb21.out.trans (hb22.mono Hb21.out.size))
        clear hb22 hr22
        go_wp2_with fail
        refine (same64 A21 A22 T.length c21 c22 T _ rfl Hj22.out Hk22.out hTl).mono ?_
        rintro e w23 ⟨rfl, hb23⟩
        have Hs23 := Lib.hid (Hs22.out.below hb23)
        have Hw23 := Lib.hid (Hw22.out.below hb23)
        have Hb23 := Lib.hid (Hb22.out.trans (hb23.mono Hb22.out.size))
        clear hb23
        go_wp2_with fail
        refine (sameAt A1 A9 L.length c1 L.length c9 L L _ rfl rfl Hs23.out Hw23.out (by omega) (by omega) rfl).mono ?_
        rintro e w24 ⟨rfl, hb24⟩
        have Hb24 := Lib.hid (Hb23.out.trans (hb24.mono Hb23.out.size))
        clear hb24
        go_wp2_with fail
        exact ⟨⟨j + 1, t % 100 % 40, by omega, by go_num, rfl, by omega, Hb24.out⟩, by simp [intOf]; omega⟩
    · obtain rfl : j = 3 := by omega
      go_wp2_with fail
      refine (awake_any _).mono ?_
      rintro e w1 ⟨rfl, hb1⟩
      have Hr1 := Lib.hid (Hrr.out.below hb1)
      have Hb1 := Lib.hid (Hbel.out.trans (hb1.mono Hbel.out.size))
      clear hb1
      go_wp2_with fail
      refine (hv.out _ Hr1.out).mono ?_
      rintro e w2 ⟨A2, c2, rfl, hr2, hc2, hb2⟩
      have Hr2 := Lib.hid hr2
      have Hb2 := Lib.hid (Hb1.out.trans (hb2.mono Hb1.out.size))
      have hLl : L.length ≤ 30 := hL.out.1
      clear hr2 hb2
      go_wp2_with fail
      refine (checkAt A2 L.length c2 L _ rfl Hr2.out (by omega) hL.out.2).mono ?_
      rintro e w3 ⟨rfl, hb3⟩
      have Hb3 := Lib.hid (Hb2.out.trans (hb3.mono Hb2.out.size))
      clear hb3
      go_wp2_with fail
      go_ret
      exact ⟨rfl, Hb3.out⟩

theorem agrees_any (A : Option Addr) (n c : Nat) (raw : List Pl.Ver) (t : Int) (p : Bool) (w : World) (hn : raw.length = n) (hr : Rd w 3 A n (raw.flatMap fV)) (hm : n ≤ maxLen) (hnc : n ≤ c) (hwf : ∀ v ∈ raw, 0 ≤ v.1) (ht : 0 ≤ t) :
    Calls Try.prog 8 #[.slice A n c, .int .u64 t, .bool p] w fun e w' => e = .returned (.bool true) ∧ Below w.heap.size w w' := by
  obtain ⟨h1, h2, _⟩ := Pl.made_ok raw p
  by_cases h : n ≤ 60
  · exact agrees_short A n c raw (Pl.made raw p) t p w hn hr h hnc ht (fun W hW => validRd A n c raw (Pl.made raw p) p W hn hW hm hwf rfl) ⟨h1, h2.chk⟩
  · exact agrees_long A n c t p w hm (by omega)
end Go.Proofs.Ythffgfgejggjaaa
