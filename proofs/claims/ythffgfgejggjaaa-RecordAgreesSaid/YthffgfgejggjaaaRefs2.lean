/-
  The contracts of the reference's Check and Times, of Times, and of Same at uint64.
-/
import Derived.Test.YthffgfgejggjaaaRefs
import Derived.Test.YthffgfgejggjaaaValid
namespace Go.Proofs.Ythffgfgejggjaaa
open Go.RowKit

set_option maxHeartbeats 4000000 in
theorem refCheck_any (A : Option Addr) (n c : Nat) (l : List Pl.Ver) (w : World) (hn : l.length = n) (hr : Rd w 3 A n (l.flatMap fV)) (hb : n ≤ 1000) :
    Calls Try.prog 19 #[.slice A n c] w fun e w' => e = .returned (.bool (decide (Pl.chk1 l))) ∧ Below w.heap.size w w' := by
  have hn' := Lib.hid hn
  go_enter Try.func19, Try.ntmps19
  clear hn
  go_wp2_with fail
  go_loopw [3] (fun i wr => ∃ (k : Nat), k ≤ n ∧ i = .int .i64 k ∧ Hid (okTo l k) ∧ Below w.heap.size w wr) (fun i _ => n - (intOf i).toNat)
  case atStart => exact ⟨0, Nat.zero_le _, rfl, fun i _ h => absurd h (by omega), Below.refl _ _⟩
  case round =>
    obtain ⟨k, hk, rfl, hok, hbel⟩ := hrel
    by_cases hlt : k < n
    · obtain ⟨b, off, rfl, hbl, hcell⟩ := hr.2 (by omega)
      have hkl : k < l.length := by rw [hn'.out]; exact hlt
      obtain ⟨hc0, hc1, hc2⟩ := cells3 hn'.out hbl hcell hbel k hkl
      have hprev : 0 < k → wr.cell? ⟨b, off + (k - 1) * 3, none⟩ = some (.int .u64 (l[k - 1]'(by omega)).1) := fun _ => (cells3 hn'.out hbl hcell hbel (k - 1) (by omega)).1
      clear hcell hr
      have hbad : ¬ okTo l (k + 1) → Hid (decide (Pl.chk1 l) = false) := fun h => decide_eq_false fun g => h fun i hi _ => (okTo_all.2 g) i hi hi
      have hno1 : (l[k].2.2 = true ∧ l[k].2.1 ≠ ⟨#[]⟩) → ¬ okTo l (k + 1) := fun h g => (g k hkl (by omega)).1 h
      have hno2 : (l[k].1 = 0 ∧ 0 < k) → ¬ okTo l (k + 1) := fun h g => (g k hkl (by omega)).2.1 h
      have hno3 : 0 < k → (l[k - 1]'(by omega)).1 ≠ 0 → (l[k - 1]'(by omega)).1 ≤ l[k].1 → ¬ okTo l (k + 1) := fun h0 h1 h2 g => by
        have := (g k hkl (by omega)).2.2 h0 h1
        omega
      have hgood : ¬ (l[k].2.2 = true ∧ l[k].2.1 ≠ ⟨#[]⟩) → ¬ (l[k].1 = 0 ∧ 0 < k) → (0 < k → (l[k - 1]'(by omega)).1 ≠ 0 → l[k].1 < (l[k - 1]'(by omega)).1) → Hid (okTo l (k + 1)) := fun h1 h2 h3 => okTo_succ hkl hok.out h1 h2 h3
      have Hbad := Lib.hid hbad
      have Hno1 := Lib.hid hno1
      have Hno2 := Lib.hid hno2
      have Hno3 := Lib.hid hno3
      have Hgood := Lib.hid hgood
      clear hbad hno1 hno2 hno3 hgood
      obtain ⟨q, hq⟩ : ∃ q, (l[k - 1]'(by omega)).1 = q := ⟨_, rfl⟩
      rw [hq] at hprev Hno3 Hgood
      clear hq
      generalize l[k] = x at hc0 hc1 hc2 Hno1 Hno2 Hno3 Hgood
      obtain ⟨s, v, d⟩ := x
      dsimp only at hc0 hc1 hc2 Hno1 Hno2 Hno3 Hgood
      by_cases h2 : s = 0 ∧ 0 < k
      · have H := Hbad.out (Hno2.out h2)
        obtain ⟨rfl, h3⟩ := h2
        go_wp2_with fail
        go_ret
        refine ⟨?_, hbel⟩
        rw [H.out]; rfl
      · have hf2 : ((s == 0) = false) ∨ (s = 0 ∧ k = 0) := by
          by_cases h : s = 0
          · exact .inr ⟨h, by omega⟩
          · exact .inl (by simpa using h)
        by_cases h1 : d = true ∧ v ≠ ⟨#[]⟩
        · have H := Hbad.out (Hno1.out h1)
          obtain ⟨rfl, hv⟩ := h1
          have hv' := ne_empty hv
          clear hv h2 hprev
          rcases hf2 with hf2 | ⟨rfl, rfl⟩
          · go_wp2_with fail
            go_ret
            refine ⟨?_, hbel⟩
            rw [H.out]; rfl
          · simp only [Nat.zero_mul, Nat.add_zero] at hc0 hc1 hc2
            go_wp2_with fail
            go_ret
            refine ⟨?_, hbel⟩
            rw [H.out]; rfl
        · have h1' : d = false ∨ (d = true ∧ v = ⟨#[]⟩) := by
            cases d
            · exact .inl rfl
            · by_cases hv : v = ⟨#[]⟩
              · exact .inr ⟨rfl, hv⟩
              · exact absurd ⟨rfl, hv⟩ h1
          rcases Nat.eq_zero_or_pos k with h0 | h0
          · have H := Hgood.out h1 h2 (fun h => by omega)
            subst h0
            clear h1 h2 hprev
            simp only [Nat.zero_mul, Nat.add_zero] at hc0 hc1 hc2
            rcases hf2 with hf2 | ⟨rfl, _⟩ <;> rcases h1' with rfl | ⟨rfl, rfl⟩ <;>
              (go_wp2_with fail
               go_quiet (fail)
               go_wp2_with fail
               exact ⟨⟨0 + 1, by omega, by go_num, H, bel_drewN hbel _⟩, by simp [intOf]; omega⟩)
          · have hp := hprev h0
            have hf3 : (s == 0) = false := by rcases hf2 with h | ⟨_, h⟩; exact h; omega
            have g0 : decide (0 < (k : Int)) = true := by simp; omega
            clear hprev hf2
            by_cases hq0 : q = 0
            · have H := Hgood.out h1 h2 (fun _ h => absurd hq0 h)
              subst hq0
              clear h1 h2
              rcases h1' with rfl | ⟨rfl, rfl⟩ <;>
                (go_wp2_with fail
                 go_quiet (fail)
                 go_wp2_with fail
                 exact ⟨⟨k + 1, by omega, by go_num, H, bel_drewN hbel _⟩, by simp [intOf]; omega⟩)
            · have hq1 : (q != 0) = true := by simpa using hq0
              by_cases h4 : q ≤ s
              · have H := Hbad.out (Hno3.out h0 hq0 h4)
                have g1 : decide (q ≤ s) = true := decide_eq_true h4
                clear h1 h2 hq0
                rcases h1' with rfl | ⟨rfl, rfl⟩ <;>
                  (go_wp2_with fail
                   go_quiet (fail)
                   go_wp2_with fail
                   go_ret
                   refine ⟨?_, bel_drewN hbel _⟩
                   rw [H.out]; rfl)
              · have H := Hgood.out h1 h2 (fun _ _ => by omega)
                have g1 : decide (q ≤ s) = false := decide_eq_false h4
                clear h1 h2 hq0
                rcases h1' with rfl | ⟨rfl, rfl⟩ <;>
                  (go_wp2_with fail
                   go_quiet (fail)
                   go_wp2_with fail
                   exact ⟨⟨k + 1, by omega, by go_num, H, bel_drewN hbel _⟩, by simp [intOf]; omega⟩)
    · obtain rfl : k = n := by omega
      have H : Hid (decide (Pl.chk1 l) = true) := decide_eq_true (okTo_all.1 (by rw [hn'.out]; exact hok.out))
      go_wp2_with fail
      go_ret
      refine ⟨?_, hbel⟩
      rw [H.out]; rfl

/-- The stamps that are not pending. -/
def tm (l : List Pl.Ver) : List Int := (l.filter fun v => v.1 != 0).map (·.1)
theorem tm_succ (l : List Pl.Ver) (k : Nat) (h : k < l.length) : tm (l.take (k + 1)) = if l[k].1 = 0 then tm (l.take k) else tm (l.take k) ++ [l[k].1] := by
  rw [List.take_succ_eq_append_getElem h]
  unfold tm
  rw [List.filter_append, List.map_append]
  by_cases h0 : l[k].1 = 0 <;> simp [h0]
theorem tm_len (l : List Pl.Ver) (k : Nat) : (tm (l.take k)).length ≤ k := by
  unfold tm
  rw [List.length_map]
  have := List.length_filter_le (fun v : Pl.Ver => v.1 != 0) (l.take k)
  have := List.length_take_le k l
  omega
theorem Try.info23 : (Try.prog.info? 23).map (fun i => (i.zero, i.size, i.bytes)) = some (some (.int .u64 0), 1, 8) := by kernel_rfl
theorem one_int (s : Int) : ∀ u ∈ ([.int .u64 s] : List Value), u.oneCell' = true := by
  intro u hu
  simp at hu
  subst hu; rfl
theorem new1b (w : World) (o : Obj) (x : Value) (t : TypeId) : ∀ j u, ([x] : List Value)[j]? = some u → ((w.alloc o).alloc (.cells #[x] t)).cell? ((⟨w.heap.size + 1, 0, none⟩ : Addr).add j) = some u := by
  have h := newCells (w.alloc o) [x] t
  have e : (w.alloc o).heap.size = w.heap.size + 1 := by simp
  rw [e] at h
  exact h

set_option maxHeartbeats 2000000 in
theorem times_any (A : Option Addr) (n c : Nat) (l : List Pl.Ver) (w : World) (hn : l.length = n) (hr : Rd w 3 A n (l.flatMap fV)) (hb : n ≤ 1000) :
    Calls Try.prog 23 #[.slice A n c] w fun e w' => ∃ A' c', e = .returned (.slice A' (tm l).length c') ∧ Rd w' 1 A' (tm l).length ((tm l).map (Value.int .u64)) ∧ Below w.heap.size w w' := by
  obtain ⟨i0, hi, hz0, hz1, hz2⟩ := info_parts Try.info23
  have hn' := Lib.hid hn
  go_enter Try.func23, Try.ntmps23
  clear hn
  go_wp2_with fail
  go_loopw [3, 8] (fun o i wr => ∃ k : Nat, k ≤ n ∧ i = .int .i64 k ∧ wr.ownsRow w.heap.size 23 1 o (tm (l.take k)).length ((tm (l.take k)).map (Value.int .u64)) ∧ Below w.heap.size w wr) (fun _ i _ => n - (intOf i).toNat)
  case atStart => exact ⟨0, Nat.zero_le _, rfl, World.ownsRow_nil _ _ _ _, Below.refl _ _⟩
  case round =>
    obtain ⟨k, hk, rfl, hown, hbel⟩ := hrel
    have hsz := hbel.size
    by_cases hlt : k < n
    · obtain ⟨b, off, rfl, hbl, hcell⟩ := hr.2 (by omega)
      have hkl : k < l.length := by rw [hn'.out]; exact hlt
      obtain ⟨hc0, hc1, hc2⟩ := cells3 hn'.out hbl hcell hbel k hkl
      have hbw : b < wr.heap.size := by omega
      have hstep := Lib.hid (tm_succ l k hkl)
      have hlen := tm_len l k
      clear hcell hr
      generalize l[k] = x at hc0 hc1 hc2 hstep
      generalize tm (l.take k) = T at hown hstep hlen
      obtain ⟨s, v, d⟩ := x
      dsimp only at hc0 hc1 hc2 hstep
      by_cases h0 : s = 0
      · have hst := hstep.out
        rw [if_pos h0] at hst
        have Hst := Lib.hid hst
        subst h0
        clear hst
        go_wp2_with fail
        exact ⟨⟨k + 1, by omega, by go_num, by rw [Hst.out]; exact hown.alloc _, hbel.alloc hsz _⟩, by simp [intOf]; omega⟩
      · have hne : (s != 0) = true := by simpa using h0
        have hst := hstep.out
        rw [if_neg h0] at hst
        have Hst := Lib.hid hst
        clear hst h0
        go_wp2_with (at_builtin; refine wpList_append_own _ rfl (.tmp 15) (.tmp 18) 31 rfl w.heap.size 23 i0 _ 1 8 Try.underlying31 hi hz0 hz1 hz2 rfl (by decide) _ _ _ rfl ((hown.alloc _).alloc _) ⟨wr.heap.size + 1, 0, none⟩ 1 1 [.int .u64 s] rfl rfl (new1b _ _ _ _) (one_int s) (by unfold maxLen; omega) (by omega) (by simp; omega) ?_; intro o' w1 hown' hgrow _)
        have hbel1 := ((hbel.alloc hsz _).alloc (by simp; omega) (.cells #[.int .u64 s] 23)).grown hgrow (by simp; omega) fun g hg => (hown.lt g hg).1
        have Hown := Lib.hid hown'
        clear hown' hgrow
        go_wp2_with fail
        refine ⟨⟨k + 1, by omega, by go_num, ?_, hbel1⟩, by simp [intOf]; omega⟩
        rw [Hst.out, List.map_append, List.length_append]
        exact Hown.out
    · obtain rfl : k = n := by omega
      have htk : l.take k = l := List.take_of_length_le (by rw [hn'.out]; exact Nat.le_refl _)
      rw [htk] at hown
      obtain ⟨A', c', rfl, _, _⟩ := own_slice hown
      have Hr := Lib.hid (Rd.of_own hown)
      clear hown htk
      go_wp2_with fail
      go_ret
      exact ⟨_, _, rfl, Hr.out, hbel⟩

set_option maxHeartbeats 2000000 in
theorem refTimes_any (A : Option Addr) (n c : Nat) (l : List Pl.Ver) (w : World) (hn : l.length = n) (hr : Rd w 3 A n (l.flatMap fV)) (hb : n ≤ 1000) :
    Calls Try.prog 24 #[.slice A n c] w fun e w' => ∃ A' c', e = .returned (.slice A' (tm l).length c') ∧ Rd w' 1 A' (tm l).length ((tm l).map (Value.int .u64)) ∧ Below w.heap.size w w' := by
  obtain ⟨i0, hi, hz0, hz1, hz2⟩ := info_parts Try.info23
  have hn' := Lib.hid hn
  go_enter Try.func24, Try.ntmps24
  clear hn
  go_wp2_with fail
  go_loopw [3, 4] (fun o i wr => ∃ k : Nat, k ≤ n ∧ i = .int .i64 k ∧ wr.ownsRow w.heap.size 23 1 o (tm (l.take k)).length ((tm (l.take k)).map (Value.int .u64)) ∧ Below w.heap.size w wr) (fun _ i _ => n - (intOf i).toNat)
  case atStart => exact ⟨0, Nat.zero_le _, rfl, World.ownsRow_nil _ _ _ _, Below.refl _ _⟩
  case round =>
    obtain ⟨k, hk, rfl, hown, hbel⟩ := hrel
    have hsz := hbel.size
    by_cases hlt : k < n
    · obtain ⟨b, off, rfl, hbl, hcell⟩ := hr.2 (by omega)
      have hkl : k < l.length := by rw [hn'.out]; exact hlt
      obtain ⟨hc0, hc1, hc2⟩ := cells3 hn'.out hbl hcell hbel k hkl
      have hbw : b < wr.heap.size := by omega
      have hstep := Lib.hid (tm_succ l k hkl)
      have hlen := tm_len l k
      clear hcell hr
      generalize l[k] = x at hc0 hc1 hc2 hstep
      generalize tm (l.take k) = T at hown hstep hlen
      obtain ⟨s, v, d⟩ := x
      dsimp only at hc0 hc1 hc2 hstep
      by_cases h0 : s = 0
      · have hst := hstep.out
        rw [if_pos h0] at hst
        have Hst := Lib.hid hst
        subst h0
        clear hst
        go_wp2_with fail
        exact ⟨⟨k + 1, by omega, by go_num, by rw [Hst.out]; exact hown, hbel⟩, by simp [intOf]; omega⟩
      · have hne : (s != 0) = true := by simpa using h0
        have hst := hstep.out
        rw [if_neg h0] at hst
        have Hst := Lib.hid hst
        clear hst h0
        go_wp2_with (at_builtin; refine wpList_append_own _ rfl (.tmp 17) (.tmp 23) 31 rfl w.heap.size 23 i0 _ 1 8 Try.underlying31 hi hz0 hz1 hz2 rfl (by decide) _ _ _ rfl (hown.alloc _) ⟨wr.heap.size, 0, none⟩ 1 1 [.int .u64 s] rfl rfl (newCells _ [.int .u64 s] 23) (one_int s) (by unfold maxLen; omega) (by omega) (by simp; omega) ?_; intro o' w1 hown' hgrow _)
        have hbel1 := (hbel.alloc hsz (.cells #[.int .u64 s] 23)).grown hgrow (by simp; omega) fun g hg => (hown.lt g hg).1
        have Hown := Lib.hid hown'
        clear hown' hgrow
        go_wp2_with fail
        refine ⟨⟨k + 1, by omega, by go_num, ?_, hbel1⟩, by simp [intOf]; omega⟩
        rw [Hst.out, List.map_append, List.length_append]
        exact Hown.out
    · obtain rfl : k = n := by omega
      have htk : l.take k = l := List.take_of_length_le (by rw [hn'.out]; exact Nat.le_refl _)
      rw [htk] at hown
      obtain ⟨A', c', rfl, _, _⟩ := own_slice hown
      have Hr := Lib.hid (Rd.of_own hown)
      clear hown htk
      go_wp2_with fail
      go_ret
      exact ⟨_, _, rfl, Hr.out, hbel⟩
end Go.Proofs.Ythffgfgejggjaaa
