/-
  The contracts of Check (package record and reference), Same (at Version).
-/
import Derived.Test.YthffgfgejggjaaaFind
namespace Go.Proofs.Ythffgfgejggjaaa
open Go.RowKit

/-- The first k versions are in order. -/
def okTo (l : List Pl.Ver) (k : Nat) : Prop := ∀ i (hi : i < l.length), i < k → ¬ (l[i].2.2 = true ∧ l[i].2.1 ≠ ⟨#[]⟩) ∧ ¬ (l[i].1 = 0 ∧ 0 < i) ∧ (0 < i → (l[i - 1]'(by omega)).1 ≠ 0 → l[i].1 < (l[i - 1]'(by omega)).1)
theorem okTo_all {l : List Pl.Ver} : okTo l l.length ↔ Pl.chk1 l := ⟨fun h i hi => h i hi hi, fun h i hi _ => h i hi⟩
theorem okTo_succ {l : List Pl.Ver} {k : Nat} (hk : k < l.length) (h : okTo l k) (h1 : ¬ (l[k].2.2 = true ∧ l[k].2.1 ≠ ⟨#[]⟩)) (h2 : ¬ (l[k].1 = 0 ∧ 0 < k)) (h3 : 0 < k → (l[k - 1]'(by omega)).1 ≠ 0 → l[k].1 < (l[k - 1]'(by omega)).1) : okTo l (k + 1) := by
  intro i hi hik
  by_cases e : i = k
  · subst e; exact ⟨h1, h2, h3⟩
  · exact h i hi (by omega)
theorem ne_empty {v : ByteArray} (h : v ≠ ⟨#[]⟩) : v.toList.isEmpty = false := by
  rw [Lib.toList_data]
  cases v with | mk d => cases hd : d.toList with
    | nil => exact absurd (by simpa using hd) (fun e : d = #[] => h (by rw [e]))
    | cons => simp

/-- What the loop of Check remembers: whether a version that is not pending was seen, and the last such stamp. -/
def mem (l : List Pl.Ver) (k : Nat) (f : Bool) (t : Int) : Prop := (f = true ∧ ∀ h : k - 1 < l.length, 0 < k → l[k - 1].1 = 0) ∨ (f = false ∧ ∃ h : k - 1 < l.length, 0 < k ∧ l[k - 1].1 = t ∧ t ≠ 0)

set_option maxHeartbeats 2000000 in
theorem check_any (A : Option Addr) (n c : Nat) (l : List Pl.Ver) (w : World) (hn : l.length = n) (hr : Rd w 3 A n (l.flatMap fV)) (hb : n ≤ 1000) :
    Calls Try.prog 12 #[.slice A n c] w fun e w' => e = .returned (.bool (decide (Pl.chk1 l))) ∧ Below w.heap.size w w' := by
  have hn' := Lib.hid hn
  go_enter Try.func12, Try.ntmps12
  clear hn
  go_wp2_with fail
  go_loopw [3, 4, 9] (fun t f i wr => ∃ (k : Nat) (f' : Bool) (t' : Int), k ≤ n ∧ i = .int .i64 k ∧ f = .bool f' ∧ t = .int .u64 t' ∧ Hid (okTo l k) ∧ Hid (mem l k f' t') ∧ Below w.heap.size w wr) (fun _ _ i _ => n - (intOf i).toNat)
  case atStart => exact ⟨0, true, _, Nat.zero_le _, rfl, rfl, rfl, fun i _ h => absurd h (by omega), .inl ⟨rfl, fun _ h => absurd h (by omega)⟩, Below.refl _ _⟩
  case round =>
    obtain ⟨k, f', t', hk, rfl, rfl, rfl, hok, hmem, hbel⟩ := hrel
    by_cases hlt : k < n
    · obtain ⟨b, off, rfl, hbl, hcell⟩ := hr.2 (by omega)
      have hkl : k < l.length := by rw [hn'.out]; exact hlt
      obtain ⟨hc0, hc1, hc2⟩ := cells3 hn'.out hbl hcell hbel k hkl
      have hsz := hbel.size
      clear hcell hr
      -- what each outcome means
      have hbad : ¬ okTo l (k + 1) → Hid (decide (Pl.chk1 l) = false) := fun h => decide_eq_false fun g => h fun i hi _ => (okTo_all.2 g) i hi hi
      have hno1 : (l[k].2.2 = true ∧ l[k].2.1 ≠ ⟨#[]⟩) → ¬ okTo l (k + 1) := fun h g => (g k hkl (by omega)).1 h
      have hno2 : (l[k].1 = 0 ∧ 0 < k) → ¬ okTo l (k + 1) := fun h g => (g k hkl (by omega)).2.1 h
      have hno3 : f' = false → t' ≤ l[k].1 → ¬ okTo l (k + 1) := by
        intro hf ht g
        rcases hmem.out with ⟨h, _⟩ | ⟨_, _, h0, h1, h2⟩
        · rw [hf] at h; cases h
        · have := (g k hkl (by omega)).2.2 h0 (by rw [h1]; exact h2)
          rw [h1] at this; omega
      have hpend : l[k].1 = 0 → ¬ 0 < k → ¬ (l[k].2.2 = true ∧ l[k].2.1 ≠ ⟨#[]⟩) → Hid (okTo l (k + 1)) ∧ (f' = true → Hid (mem l (k + 1) f' t')) ∧ f' = true := by
        intro h0 h1 h2
        refine ⟨okTo_succ hkl hok.out h2 (fun g => h1 g.2) (fun g => absurd g h1), fun hf => .inl ⟨hf, fun _ _ => h0⟩, ?_⟩
        rcases hmem.out with ⟨h, _⟩ | ⟨_, _, g0, _⟩
        · exact h
        · exact absurd g0 h1
      have hgood : l[k].1 ≠ 0 → ¬ (l[k].2.2 = true ∧ l[k].2.1 ≠ ⟨#[]⟩) → (f' = true ∨ l[k].1 < t') → Hid (okTo l (k + 1)) ∧ Hid (mem l (k + 1) false l[k].1) := by
        intro h0 h1 h2
        refine ⟨okTo_succ hkl hok.out h1 (fun g => h0 g.1) (fun g0 g1 => ?_), .inr ⟨rfl, hkl, by omega, rfl, h0⟩⟩
        rcases hmem.out with ⟨_, h⟩ | ⟨hf, _, _, h, _⟩
        · exact absurd (h (by omega) g0) g1
        · rcases h2 with h2 | h2
          · rw [hf] at h2; cases h2
          · rw [h]; exact h2
      have Hbad := Lib.hid hbad
      have Hno1 := Lib.hid hno1
      have Hno2 := Lib.hid hno2
      have Hno3 := Lib.hid hno3
      have Hpend := Lib.hid hpend
      have Hgood := Lib.hid hgood
      clear hbad hno1 hno2 hno3 hpend hgood
      generalize l[k] = x at hc0 hc1 hc2 Hno1 Hno2 Hno3 Hpend Hgood
      obtain ⟨s, v, d⟩ := x
      dsimp only at hc0 hc1 hc2 Hno1 Hno2 Hno3 Hpend Hgood
      by_cases h1 : d = true ∧ v ≠ ⟨#[]⟩
      · have H := Hbad.out (Hno1.out h1)
        obtain ⟨rfl, hv⟩ := h1
        have hv' := ne_empty hv
        clear hv
        go_wp2_with fail
        go_ret
        refine ⟨?_, hbel.alloc hsz _⟩
        rw [H.out]; rfl
      · have h1' : d = false ∨ (d = true ∧ v = ⟨#[]⟩) := by
          cases d
          · exact .inl rfl
          · by_cases hv : v = ⟨#[]⟩
            · exact .inr ⟨rfl, hv⟩
            · exact absurd ⟨rfl, hv⟩ h1
        by_cases h2 : s = 0
        · by_cases h3 : 0 < k
          · have H := Hbad.out (Hno2.out ⟨h2, h3⟩)
            subst h2
            clear h1
            rcases h1' with rfl | ⟨rfl, rfl⟩ <;>
              (go_wp2_with fail
               go_ret
               refine ⟨?_, hbel.alloc hsz _⟩
               rw [H.out]; rfl)
          · obtain ⟨G1, G2, rfl⟩ := Hpend.out h2 h3 h1
            have G3 := G2 rfl
            subst h2
            clear h1 G2
            rcases h1' with rfl | ⟨rfl, rfl⟩ <;>
              (go_wp2_with fail
               exact ⟨⟨k + 1, _, _, by omega, by go_num, rfl, rfl, G1, G3, hbel.alloc hsz _⟩, by simp [intOf]; omega⟩)
        · have hs0 : (s == 0) = false := by simpa using h2
          cases f' with
          | true =>
            obtain ⟨G1, G2⟩ := Hgood.out h2 h1 (.inl rfl)
            clear h1
            rcases h1' with rfl | ⟨rfl, rfl⟩ <;>
              (go_wp2_with fail
               exact ⟨⟨k + 1, _, _, by omega, by go_num, rfl, rfl, G1, G2, hbel.alloc hsz _⟩, by simp [intOf]; omega⟩)
          | false =>
            by_cases h4 : t' ≤ s
            · have H := Hbad.out (Hno3.out rfl h4)
              clear h1
              rcases h1' with rfl | ⟨rfl, rfl⟩ <;>
                (go_wp2_with fail
                 go_ret
                 refine ⟨?_, hbel.alloc hsz _⟩
                 rw [H.out]; rfl)
            · obtain ⟨G1, G2⟩ := Hgood.out h2 h1 (.inr (by omega))
              clear h1
              rcases h1' with rfl | ⟨rfl, rfl⟩ <;>
                (go_wp2_with fail
                 exact ⟨⟨k + 1, _, _, by omega, by go_num, rfl, rfl, G1, G2, hbel.alloc hsz _⟩, by simp [intOf]; omega⟩)
    · obtain rfl : k = n := by omega
      have H : Hid (decide (Pl.chk1 l) = true) := decide_eq_true (okTo_all.1 (by rw [hn'.out]; exact hok.out))
      go_wp2_with fail
      go_ret
      refine ⟨?_, hbel⟩
      rw [H.out]; rfl

theorem toList_inj {b b' : ByteArray} : b.toList = b'.toList ↔ b = b' := by
  rw [Lib.toList_data, Lib.toList_data]
  constructor
  · intro h; cases b; cases b'; simpa using h
  · intro h; rw [h]
theorem neq_ver (w : World) (a a' : Int) (b b' : ByteArray) (c c' : Bool) :
    (binOp .neq 27 (.agg #[.int .u64 a, .string b, .bool c]) (.agg #[.int .u64 a', .string b', .bool c'])).run Try.prog w = .ok (.bool (!decide ((a, b, c) = (a', b', c')))) w := by
  simp [go_sem, toList_inj]
  by_cases h1 : a = a' <;> by_cases h2 : b = b' <;> by_cases h3 : c = c' <;> simp [h1, h2, h3]
theorem eql_ver (w : World) (a a' : Int) (b b' : ByteArray) (c c' : Bool) :
    (binOp .eql 27 (.agg #[.int .u64 a, .string b, .bool c]) (.agg #[.int .u64 a', .string b', .bool c'])).run Try.prog w = .ok (.bool (decide ((a, b, c) = (a', b', c')))) w := by
  simp [go_sem, toList_inj]
  by_cases h1 : a = a' <;> by_cases h2 : b = b' <;> by_cases h3 : c = c' <;> simp [h1, h2, h3]

set_option maxHeartbeats 1000000 in
theorem same_any (A B : Option Addr) (n c m d : Nat) (l r : List Pl.Ver) (w : World) (hn : l.length = n) (hm : r.length = m) (hr : Rd w 3 A n (l.flatMap fV)) (hs : Rd w 3 B m (r.flatMap fV)) (hb : n ≤ 1000) (hb' : m ≤ 1000) :
    Calls Try.prog 13 #[.slice A n c, .slice B m d] w fun e w' => e = .returned (.bool (decide (l = r))) ∧ Below w.heap.size w w' := by
  by_cases hnm : n = m
  · subst hnm
    have hq := neq_ver
    have hn' := Lib.hid hn
    have hm' := Lib.hid hm
    have Hq := Lib.hid hq
    go_enter Try.func13, Try.ntmps13
    clear hn hm hq
    go_wp2_with fail
    go_loopw [5] (fun i wr => ∃ k : Nat, k ≤ n ∧ i = .int .i64 k ∧ Hid (l.take k = r.take k) ∧ Below w.heap.size w wr) (fun i _ => n - (intOf i).toNat)
    case atStart => exact ⟨0, Nat.zero_le _, rfl, rfl, Below.refl _ _⟩
    case round =>
      obtain ⟨k, hk, rfl, htk, hbel⟩ := hrel
      by_cases hlt : k < n
      · obtain ⟨b, off, rfl, hbl, hcell⟩ := hr.2 (by omega)
        obtain ⟨b', off', rfl, hbl', hcell'⟩ := hs.2 (by omega)
        have hkl : k < l.length := by rw [hn'.out]; exact hlt
        have hkr : k < r.length := by rw [hm'.out]; exact hlt
        obtain ⟨hc0, hc1, hc2⟩ := cells3 hn'.out hbl hcell hbel k hkl
        obtain ⟨gc0, gc1, gc2⟩ := cells3 hm'.out hbl' hcell' hbel k hkr
        have hyes : l[k] = r[k] → Hid (l.take (k + 1) = r.take (k + 1)) := fun e => by
          show l.take (k + 1) = r.take (k + 1)
          rw [List.take_succ_eq_append_getElem hkl, List.take_succ_eq_append_getElem hkr, htk.out, e]
        have hnot : l[k] ≠ r[k] → Hid (decide (l = r) = false) := fun e => decide_eq_false fun g => e (by subst g; rfl)
        have Hyes := Lib.hid hyes
        have Hnot := Lib.hid hnot
        clear hyes hnot hcell hcell' hr hs
        generalize l[k] = x at hc0 hc1 hc2 Hyes Hnot
        generalize r[k] = y at gc0 gc1 gc2 Hyes Hnot
        obtain ⟨s, v, d⟩ := x
        obtain ⟨s', v', d'⟩ := y
        dsimp only at hc0 hc1 hc2 gc0 gc1 gc2
        by_cases e : (s, v, d) = (s', v', d')
        · have H := Hyes.out e
          have hv : ∀ W, (binOp .neq 27 (.agg #[.int .u64 s, .string v, .bool d]) (.agg #[.int .u64 s', .string v', .bool d'])).run Try.prog W = .ok (.bool false) W := fun W => by rw [Hq.out, decide_eq_true e]; rfl
          clear e
          go_wp2_with fail
          go_quiet (fail)
          go_wp2_with fail
          exact ⟨⟨k + 1, by omega, by go_num, H, bel_drewN hbel _⟩, by simp [intOf]; omega⟩
        · have H := Hnot.out e
          have hv : ∀ W, (binOp .neq 27 (.agg #[.int .u64 s, .string v, .bool d]) (.agg #[.int .u64 s', .string v', .bool d'])).run Try.prog W = .ok (.bool true) W := fun W => by rw [Hq.out, decide_eq_false e]; rfl
          clear e
          go_wp2_with fail
          go_quiet (fail)
          go_wp2_with fail
          go_ret
          refine ⟨?_, bel_drewN hbel _⟩
          rw [H.out]; rfl
      · obtain rfl : k = n := by omega
        have H : Hid (decide (l = r) = true) := by
          refine decide_eq_true ?_
          have := htk.out
          rwa [List.take_of_length_le (by rw [hn'.out]; exact Nat.le_refl _), List.take_of_length_le (by rw [hm'.out]; exact Nat.le_refl _)] at this
        go_wp2_with fail
        go_ret
        refine ⟨?_, hbel⟩
        rw [H.out]; rfl
  · have hne : ((n : Int) == (m : Int)) = false := by simp; omega
    have hd : decide (l = r) = false := decide_eq_false fun e => hnm (by rw [← hn, ← hm, e])
    rw [hd]
    clear hd hn hm hr hs
    go_enter Try.func13, Try.ntmps13
    go_wp2_with fail
    go_ret
    exact ⟨rfl, Below.refl _ _⟩
end Go.Proofs.Ythffgfgejggjaaa
