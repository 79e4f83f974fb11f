/-
  The contracts of the reference's find, Visible, Value, Cut, Dead: as the program's own.
-/
import Derived.Test.YthffgfgejggjaaaCheck
namespace Go.Proofs.Ythffgfgejggjaaa
open Go.RowKit


set_option maxHeartbeats 1000000 in
theorem first_any (A : Option Addr) (n c : Nat) (l : List Pl.Ver) (t : Int) (w : World) (hn : l.length = n) (hr : Rd w 3 A n (l.flatMap fV)) (hb : n ≤ 1000) :
    Calls Try.prog 26 #[.slice A n c, .int .u64 t] w fun e w' => e = .returned (.int .i64 (Pl.fnd l t)) ∧ Below w.heap.size w w' := by
  have hn' := Lib.hid hn
  go_enter Try.func26, Try.ntmps26
  clear hn
  go_wp2_with fail
  go_loopw [5] (fun i wr => ∃ k : Nat, k ≤ n ∧ i = .int .i64 k ∧ Hid (∀ i (hi : i < l.length), i < k → Pl.hit t l[i] = false) ∧ Below w.heap.size w wr) (fun i _ => n - (intOf i).toNat)
  case atStart => exact ⟨0, Nat.zero_le _, rfl, fun i _ h => absurd h (by omega), Below.refl _ _⟩
  case round =>
    obtain ⟨k, hk, rfl, hno, hbel⟩ := hrel
    by_cases hlt : k < n
    · obtain ⟨b, off, rfl, hbl, hcell⟩ := hr.2 (by omega)
      have hkl : k < l.length := by rw [hn'.out]; exact hlt
      obtain ⟨hc0, hc1, hc2⟩ := cells3 hn'.out hbl hcell hbel k hkl
      have hcl := Lib.hid hcell
      clear hcell
      have hnext : ¬ Pl.hit t l[k] = true → Hid (∀ i (hi : i < l.length), i < k + 1 → Pl.hit t l[i] = false) := by
        intro h i hi hik
        by_cases e : i = k
        · subst e; simpa using h
        · exact hno.out i hi (by omega)
      have hhit : Pl.hit t l[k] = true → Pl.fnd l t = k := fun h => Pl.fnd_of hkl h fun i hi => hno.out i (by omega) hi
      have Hnext := Lib.hid hnext
      have Hhit := Lib.hid hhit
      clear hnext hhit
      generalize l[k] = x at hc0 hc1 hc2 Hnext Hhit
      obtain ⟨s, v, d⟩ := x
      dsimp only at hc0 hc1 hc2
      by_cases h0 : s = 0
      · have hm : ¬ Pl.hit t (s, v, d) = true := by simp [Pl.hit, h0]
        have Hm := Hnext.out hm
        subst h0
        clear hm Hhit Hnext
        go_wp2_with fail
        exact ⟨⟨k + 1, by omega, by go_num, Hm, hbel⟩, by simp [intOf]; omega⟩
      · by_cases ht : s ≤ t
        · have hm : Pl.hit t (s, v, d) = true := by simp [Pl.hit, h0, ht]
          have Hm := Lib.hid (Hhit.out hm)
          have hne : (s != 0) = true := by simpa using h0
          clear hm Hhit Hnext
          go_wp2_with fail
          go_ret
          refine ⟨?_, hbel⟩
          rw [Hm.out]; rfl
        · have hm : ¬ Pl.hit t (s, v, d) = true := by simp [Pl.hit, ht]
          have Hm := Hnext.out hm
          have hne : (s != 0) = true := by simpa using h0
          clear hm Hhit Hnext
          go_wp2_with fail
          exact ⟨⟨k + 1, by omega, by go_num, Hm, hbel⟩, by simp [intOf]; omega⟩
    · obtain rfl : k = n := by omega
      have hf : Pl.fnd l t = k := by
        rw [← hn'.out]
        exact Pl.fnd_none fun i hi => hno.out i hi (by rw [← hn'.out]; exact hi)
      have Hf := Lib.hid hf
      clear hf
      go_wp2_with fail
      go_ret
      refine ⟨?_, hbel⟩
      rw [Hf.out]; rfl

theorem firstAt (A : Option Addr) (n c k : Nat) (l : List Pl.Ver) (t : Int) (w : World) (hn : l.length = n) (hr : Rd w 3 A n (l.flatMap fV)) (hb : n ≤ 1000) (hk : Pl.fnd l t = k) :
    Calls Try.prog 26 #[.slice A n c, .int .u64 t] w fun e w' => e = .returned (.int .i64 k) ∧ Below w.heap.size w w' := by
  subst hk; exact first_any A n c l t w hn hr hb

set_option maxHeartbeats 1000000 in
theorem refVisible_any (A : Option Addr) (n c : Nat) (l : List Pl.Ver) (t : Int) (w : World) (hn : l.length = n) (hr : Rd w 3 A n (l.flatMap fV)) (hb : n ≤ 1000) :
    Calls Try.prog 17 #[.slice A n c, .int .u64 t] w fun e w' => e = .returned (.tuple #[.agg #[.int .u64 (Pl.vis l t).1, .string (Pl.vis l t).2.1, .bool (Pl.vis l t).2.2], .bool (Pl.seen l t)]) ∧ Below w.heap.size w w' := by
  obtain ⟨k, hk⟩ : ∃ k, Pl.fnd l t = k := ⟨_, rfl⟩
  have hkn : k ≤ n := by rw [← hn, ← hk]; exact Pl.fnd_le l t
  have hr0 := hr.below ((Below.refl _ _).alloc (Nat.le_refl _) (.cells #[.int .u64 0, .string ⟨#[]⟩, .bool false] 27))
  have hc := firstAt A n c k l t _ hn hr0 hb hk
  have hseen : Pl.seen l t = decide (k < n) := by unfold Pl.seen; rw [hk, hn]
  by_cases hlt : k < n
  · have hvis : Pl.vis l t = l[k]'(by omega) := by
      unfold Pl.vis
      rw [hk, List.getD_eq_getElem?_getD, List.getElem?_eq_getElem (by omega)]; rfl
    rw [hseen, hvis]
    have Hc := Lib.hid hc
    obtain ⟨b, off, rfl, hbl, hcell⟩ := hr.2 (by omega)
    have hfacts : ∀ W, Below w.heap.size w W → _ := fun W hW => cells3 hn hbl hcell hW k (by omega)
    generalize l[k]'(by omega) = x at hfacts
    obtain ⟨s, v, d⟩ := x
    dsimp only at hfacts
    have Hf := Lib.hid hfacts
    have hne : ((k : Int) == (n : Int)) = false := by simp; omega
    clear hfacts hc hcell hr hr0 hseen hvis hk hn
    go_enter Try.func17, Try.ntmps17
    go_wp2_with fail
    refine Hc.out.mono ?_
    rintro e w1 ⟨rfl, hb1⟩
    have hb0 := below_of hb1
    obtain ⟨hc0, hc1, hc2⟩ := Hf.out w1 hb0
    obtain ⟨q0, q1, q2, z0, z1, z2, hz⟩ := box3 hb1
    go_wp2_with fail
    refine bodyPost_ret (v := .tuple #[.agg #[.int .u64 s, .string v, .bool d], .bool true]) ?_ rfl ⟨?_, ?_⟩
    · simp [results, Try.results17, go_sem, q0, q1, q2]
    · simp [hlt]
    · exact ((hb0.setCell (by simp) _).setCell (by simp) _).setCell (by simp) _
  · have hvis : Pl.vis l t = Pl.zero := by
      unfold Pl.vis
      rw [hk, List.getD_eq_getElem?_getD, List.getElem?_eq_none (by omega)]; rfl
    rw [hseen, hvis]
    have Hc := Lib.hid hc
    have hkn' : k = n := by omega
    clear hc hr hr0 hseen hvis hk hn
    subst hkn'
    go_enter Try.func17, Try.ntmps17
    go_wp2_with fail
    refine Hc.out.mono ?_
    rintro e w1 ⟨rfl, hb1⟩
    have hb0 := below_of hb1
    obtain ⟨q0, q1, q2, z0, z1, z2, hz⟩ := box3 hb1
    go_wp2_with fail
    refine bodyPost_ret (v := .tuple #[.agg #[.int .u64 0, .string ⟨#[]⟩, .bool false], .bool false]) ?_ rfl ⟨?_, ?_⟩
    · simp [results, Try.results17, go_sem, q0, q1, q2]
    · simp [hlt, Pl.zero]
    · exact ((hb0.setCell (by simp) _).setCell (by simp) _).setCell (by simp) _

theorem refVisAt (A : Option Addr) (n c : Nat) (l : List Pl.Ver) (t : Int) (w : World) (x : Pl.Ver) (b : Bool) (hn : l.length = n) (hr : Rd w 3 A n (l.flatMap fV)) (hb : n ≤ 1000) (hx : Pl.vis l t = x) (hs : Pl.seen l t = b) :
    Calls Try.prog 17 #[.slice A n c, .int .u64 t] w fun e w' => e = .returned (.tuple #[.agg #[.int .u64 x.1, .string x.2.1, .bool x.2.2], .bool b]) ∧ Below w.heap.size w w' := by
  subst hx; subst hs; exact refVisible_any A n c l t w hn hr hb

set_option maxHeartbeats 1000000 in
theorem refValue_any (A : Option Addr) (n c : Nat) (l : List Pl.Ver) (t : Int) (w : World) (hn : l.length = n) (hr : Rd w 3 A n (l.flatMap fV)) (hb : n ≤ 1000) :
    Calls Try.prog 18 #[.slice A n c, .int .u64 t] w fun e w' => e = .returned (.tuple #[.string (Pl.val l t), .bool (Pl.has l t)]) ∧ Below w.heap.size w w' := by
  obtain ⟨x, hx⟩ : ∃ x, Pl.vis l t = x := ⟨_, rfl⟩
  obtain ⟨b, hs⟩ : ∃ b, Pl.seen l t = b := ⟨_, rfl⟩
  have Hc := Lib.hid (refVisAt A n c l t w x b hn hr hb hx hs)
  have hval : Pl.val l t = if b = true ∧ x.2.2 = false then x.2.1 else ⟨#[]⟩ := by unfold Pl.val; rw [hx, hs]
  have hhas : Pl.has l t = (b && !x.2.2) := by unfold Pl.has; rw [hx, hs]
  rw [hval, hhas]
  obtain ⟨s, v, d⟩ := x
  clear hval hhas hx hs hn hr hb
  cases b <;> cases d <;>
    (go_enter Try.func18, Try.ntmps18
     go_wp2_with fail
     refine Hc.out.mono ?_
     rintro e w1 ⟨rfl, hb1⟩
     go_wp2_with fail
     go_ret2
     exact ⟨rfl, hb1.alloc hb1.size _⟩)

set_option maxHeartbeats 1000000 in
theorem refCut_any (A : Option Addr) (n c : Nat) (l : List Pl.Ver) (t : Int) (w : World) (hn : l.length = n) (hr : Rd w 3 A n (l.flatMap fV)) (hb : n ≤ 1000) (hnc : n ≤ c) :
    Calls Try.prog 20 #[.slice A n c, .int .u64 t] w fun e w' => ∃ u, e = .returned u ∧ w'.ownsRow w.heap.size 27 3 u (Pl.cut l t).length ((Pl.cut l t).flatMap fV) ∧ Below w.heap.size w w' := by
  obtain ⟨i0, hi, hz0, hz1, hz2⟩ := info_parts Try.info27
  obtain ⟨k, hk⟩ : ∃ k, Pl.fnd l t = k := ⟨_, rfl⟩
  have hkn : k ≤ n := by rw [← hn, ← hk]; exact Pl.fnd_le l t
  have Hc := Lib.hid (firstAt A n c k l t w hn hr hb hk)
  have hcut : Pl.cut l t = l.take (k + 1) := by unfold Pl.cut; rw [hk]
  rw [hcut]
  clear hcut hk
  by_cases h0 : n = 0
  · subst h0
    have hl : l = [] := List.eq_nil_of_length_eq_zero hn
    subst hl
    have hk0 : k = 0 := by omega
    subst hk0
    clear hr hn hkn
    cases A with
    | none =>
      go_enter Try.func20, Try.ntmps20
      go_wp2_with fail
      refine Hc.out.mono ?_
      rintro e w1 ⟨rfl, hb1⟩
      go_wp2_with fail
      go_ret
      exact ⟨_, rfl, World.ownsRow_nil _ _ _ _, hb1⟩
    | some ad =>
      go_enter Try.func20, Try.ntmps20
      go_wp2_with fail
      refine Hc.out.mono ?_
      rintro e w1 ⟨rfl, hb1⟩
      go_wp2_with (at_builtin; refine wpList_append_own _ rfl (.const (.slice none 0 0)) (.tmp 13) 22 rfl w.heap.size 27 i0 _ 3 32 Try.underlying22 hi hz0 hz1 hz2 rfl (by decide) (.slice none 0 0) 0 [] rfl (World.ownsRow_nil _ _ _ _) ad 0 c [] rfl rfl (by simp) (by simp) (by unfold maxLen; omega) (by omega) hb1.size ?_; intro o' w2 hown' hgrow _)
      go_ret
      exact ⟨_, rfl, hown', hb1.grown hgrow hb1.size (by simp [Value.ownBlock])⟩
  · obtain ⟨b, off, rfl, _, _⟩ := hr.2 (by omega)
    obtain ⟨m, hm⟩ : ∃ m, m = min (k + 1) n := ⟨_, rfl⟩
    have hr1 : ∀ W, Below w.heap.size w W → Rd W 3 (some ⟨b, off, none⟩) m ((l.take (k + 1)).flatMap fV) := by
      intro W hW
      have := (hr.below hW).take (k := m) (by omega)
      rw [flat_take fV_len] at this
      have e : l.take m = l.take (k + 1) := by
        rw [hm]
        by_cases g : k + 1 ≤ n
        · rw [show min (k + 1) n = k + 1 from by omega]
        · rw [show min (k + 1) n = n from by omega, List.take_of_length_le (by omega), List.take_of_length_le (by omega)]
      rw [e] at this
      exact this
    have hlen : (l.take (k + 1)).length = m := by rw [List.length_take, hn, hm]
    have hmn : m ≤ 1001 := by omega
    have Hr := Lib.hid hr1
    have hone := Lib.hid (one_fV (l.take (k + 1)))
    rw [hlen]
    generalize (l.take (k + 1)).flatMap fV = xs at Hr hone
    by_cases hg : k + 1 ≤ n
    · have hmk : m = k + 1 := by omega
      subst hmk
      clear hr hr1 hn hlen hm
      go_enter Try.func20, Try.ntmps20
      go_wp2_with fail
      refine Hc.out.mono ?_
      rintro e w1 ⟨rfl, hb1⟩
      have R := Hr.out w1 hb1
      have hxl := R.1
      go_wp2_with (at_builtin; refine wpList_append_own _ rfl (.const (.slice none 0 0)) (.tmp 13) 22 rfl w.heap.size 27 i0 _ 3 32 Try.underlying22 hi hz0 hz1 hz2 rfl (by decide) (.slice none 0 0) 0 [] rfl (World.ownsRow_nil _ _ _ _) ⟨b, off, none⟩ (k + 1) c xs rfl hxl R.news hone.out (by unfold maxLen; omega) (by omega) hb1.size ?_; intro o' w2 hown' hgrow _)
      go_ret
      refine ⟨_, rfl, ?_, hb1.grown hgrow hb1.size (by simp [Value.ownBlock])⟩
      simpa using hown'
    · have hmk : m = n := by omega
      subst hmk
      have hkm : k = m := by omega
      clear hr hr1 hn hlen hm
      go_enter Try.func20, Try.ntmps20
      go_wp2_with fail
      refine Hc.out.mono ?_
      rintro e w1 ⟨rfl, hb1⟩
      have R := Hr.out w1 hb1
      have hxl := R.1
      go_wp2_with (at_builtin; refine wpList_append_own _ rfl (.const (.slice none 0 0)) (.tmp 13) 22 rfl w.heap.size 27 i0 _ 3 32 Try.underlying22 hi hz0 hz1 hz2 rfl (by decide) (.slice none 0 0) 0 [] rfl (World.ownsRow_nil _ _ _ _) ⟨b, off, none⟩ m c xs rfl hxl R.news hone.out (by unfold maxLen; omega) (by omega) hb1.size ?_; intro o' w2 hown' hgrow _)
      go_ret
      refine ⟨_, rfl, ?_, hb1.grown hgrow hb1.size (by simp [Value.ownBlock])⟩
      simpa using hown'

set_option maxHeartbeats 1000000 in
theorem refDead_any (A : Option Addr) (n c : Nat) (l : List Pl.Ver) (t : Int) (w : World) (hn : l.length = n) (hr : Rd w 3 A n (l.flatMap fV)) (hb : n ≤ 1000) :
    Calls Try.prog 21 #[.slice A n c, .int .u64 t] w fun e w' => e = .returned (.bool (Pl.dead l t)) ∧ Below w.heap.size w w' := by
  obtain ⟨k, hk⟩ : ∃ k, Pl.fnd l t = k := ⟨_, rfl⟩
  have Hc := Lib.hid (firstAt A n c k l t w hn hr hb hk)
  by_cases h0 : n = 0
  · subst h0
    have hl : l = [] := List.eq_nil_of_length_eq_zero hn
    subst hl
    have hd : Pl.dead [] t = true := rfl
    rw [hd]
    clear hr hn hk
    go_enter Try.func21, Try.ntmps21
    go_wp2_with fail
    go_ret
    exact ⟨rfl, Below.refl _ _⟩
  · obtain ⟨b, off, rfl, hbl, hcell⟩ := hr.2 (by omega)
    have hfacts : ∀ W, Below w.heap.size w W → _ := fun W hW => cells3 hn hbl hcell hW 0 (by omega)
    have hd : Pl.dead l t = (decide (k = 0) && (l[0]'(by omega)).2.2) := by
      unfold Pl.dead
      rw [hk]
      cases l with
      | nil => exact absurd hn.symm h0
      | cons x l => cases k <;> simp
    rw [hd]
    generalize l[0]'(by omega) = x at hfacts
    obtain ⟨s, v, d⟩ := x
    dsimp only at hfacts
    have Hf := Lib.hid hfacts
    have hne : ((n : Int) == 0) = false := by simp; omega
    have hpos : 0 < n := by omega
    clear hr hn hd hcell hfacts hk h0
    cases k with
    | zero =>
      cases d <;>
        (go_enter Try.func21, Try.ntmps21
         go_wp2_with fail
         refine Hc.out.mono ?_
         rintro e w1 ⟨rfl, hb1⟩
         obtain ⟨hc0, hc1, hc2⟩ := Hf.out w1 hb1
         simp only [Nat.zero_mul, Nat.add_zero] at hc0 hc1 hc2
         go_wp2_with fail
         go_ret
         exact ⟨rfl, hb1⟩)
    | succ k =>
      have hne2 : (((k + 1 : Nat) : Int) == 0) = false := by simp; omega
      go_enter Try.func21, Try.ntmps21
      go_wp2_with fail
      refine Hc.out.mono ?_
      rintro e w1 ⟨rfl, hb1⟩
      go_wp2_with fail
      go_ret
      exact ⟨rfl, hb1⟩
end Go.Proofs.Ythffgfgejggjaaa
