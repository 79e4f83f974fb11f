/-
  The contract of the reference's Check.
-/
import Derived.Test.YtabmokekibgjeaaCheck
namespace Go.Proofs.Ytabmokekibgjeaa
open Go.RowKit
attribute [local go_sem] Pl.bl_eq Pl.le_dec Pl.gt_dec tl bs_ex0

set_option maxHeartbeats 8000000 in
theorem refCheckAt (lv : Int) (A : Option Addr) (n c : Nat) (l : List Pl.Slot) (hi : ByteArray) (la : Bool) (ri : Int) (fan : Int) (r : Bool) (w : World) (hn : l.length = n) (hr : Rd w 2 A n (l.flatMap fS)) (hb : n ≤ 1000) (hk' : r = true ↔ Pl.ok lv l hi la ri fan) :
    Calls Try.prog 11 #[.agg #[.int .i64 lv, .slice A n c, .string hi, .bool la, .int .u64 ri], .int .i64 fan, .bool false] w fun e w' => e = .returned (.bool r) ∧ Below w.heap.size w w' := by
  have hk := hk'.trans Pl.ok_iff
  clear hk'
  have Hn := Lib.hid hn
  have Hr := Lib.hid hr
  have hbad : ¬ Pl.ok2 lv l hi la ri fan → r = false := fun h => by cases r <;> simp_all
  have hB := bel_box w (.cells #[.int .i64 lv, .slice A n c, .string hi, .bool la, .int .u64 ri] 25)
  obtain ⟨a, ha⟩ : ∃ a : Bool, a = true ↔ Pl.Asc l := ⟨@decide _ (Classical.propDecidable _), @decide_eq_true_iff _ (Classical.propDecidable _)⟩
  have HA := Lib.hid (ascendingAt A n c l a _ hn (hr.below hB) hb ha)
  by_cases hh : Pl.head lv l fan
  · obtain ⟨hh1, hh2, hh3⟩ := id hh
    rw [hn] at hh2 hh3
    have hfan : ¬ fan < (n : Int) := by omega
    have h1 : ¬ lv < 0 := by omega
    have h2 : (0 < lv ∧ 0 < n) ∧ ((n : Int) == 0) = false ∨ ¬ 0 < lv := by
      by_cases g : 0 < lv
      · exact .inl ⟨⟨g, by omega⟩, by rw [beq_eq_false_iff_ne]; omega⟩
      · exact .inr g
    cases a
    · have Hz : Hid (r = false) := hbad fun ho => Bool.false_ne_true (ha.2 ho.2.1)
      clear hn hr hk hbad hh ha
      go_enter Try.func11, Try.ntmps11
      rcases h2 with ⟨⟨h2, h3⟩, h4⟩ | h2
      all_goals
        go_wp2_with (go_at_call 28; refine HA.out.mono ?_; rintro e w1 ⟨rfl, hb1⟩)
        go_ret
        exact ⟨by rw [Hz.out]; rfl, below_of hb1⟩
    · have hasc := ha.1 rfl
      have hgood : ∀ i (h : i < l.length), ¬ (l[i].2 ≠ 0 ∧ (la = false → bs l[i].1 < bs hi)) → Hid (r = false) := fun i h hg => hbad fun ho => hg (ho.2.2.1 i h)
      have hlast : (∀ i (h : i < l.length), l[i].2 ≠ 0 ∧ (la = false → bs l[i].1 < bs hi)) → Hid (r = true ↔ Pl.fin hi la ri) := fun h => hk.trans ⟨fun ho => ho.2.2.2, fun ho => ⟨hh, hasc, h, ho⟩⟩
      have Hgood := Lib.hid hgood
      have Hlast := Lib.hid hlast
      clear hn hr hk hbad hgood hlast hh ha hasc
      go_enter Try.func11, Try.ntmps11
      rcases h2 with ⟨⟨h2, h3⟩, h4⟩ | h2
      all_goals
        go_wp2_with (go_at_call 28; refine HA.out.mono ?_; rintro e w1 ⟨rfl, hb1⟩)
        have H1 := Lib.hid hb1
        clear hb1
        go_loopw [7] (fun i wr => ∃ k : Nat, k ≤ n ∧ i = .int .i64 k ∧ Hid (∀ i (h : i < l.length), i < k → l[i].2 ≠ 0 ∧ (la = false → bs l[i].1 < bs hi)) ∧ Below (w.alloc (.cells #[.int .i64 lv, .slice A n c, .string hi, .bool la, .int .u64 ri] 25)).heap.size (w.alloc (.cells #[.int .i64 lv, .slice A n c, .string hi, .bool la, .int .u64 ri] 25)) wr) (fun i _ => n - (intOf i).toNat)
        case atStart => exact ⟨0, Nat.zero_le _, rfl, fun i _ h => absurd h (by omega), H1.out⟩
        case round =>
          obtain ⟨k, hk, rfl, hall, hbel⟩ := hrel
          obtain ⟨q0, q1, q2, q3, q4⟩ := box25 hbel
          have Hbel := Lib.hid hbel
          by_cases hlt : k < n
          · obtain ⟨b, off, rfl, hbl, hcell⟩ := Hr.out.2 (by omega)
            have hkl : k < l.length := by rw [Hn.out]; omega
            obtain ⟨hc0, hc1⟩ := cells2 Hn.out hbl hcell (below_of hbel) k hkl
            have hnext : (l[k].2 ≠ 0 ∧ (la = false → bs l[k].1 < bs hi)) → Hid (∀ i (h : i < l.length), i < k + 1 → l[i].2 ≠ 0 ∧ (la = false → bs l[i].1 < bs hi)) := fun h i hil hik => by
              by_cases e : i = k
              · subst e; exact h
              · exact hall.out i hil (by omega)
            have Hnext := Lib.hid hnext
            have Hstop := Lib.hid (Hgood.out k hkl)
            clear hnext hcell hbel hall
            generalize l[k] = x at hc0 hc1 Hnext Hstop
            obtain ⟨s, v⟩ := x
            dsimp only at hc0 hc1 Hnext Hstop
            by_cases hr0 : v = 0
            · have Hf := Lib.hid (Hstop.out fun h => h.1 hr0).out
              subst hr0
              clear Hnext Hstop
              go_wp2_with fail
              go_quiet (fail)
              go_wp2_with fail
              go_ret
              exact ⟨by rw [Hf.out]; rfl, bel_drewN (below_of Hbel.out) _⟩
            · have hr1 : (v == 0) = false := by simpa using hr0
              cases la
              · by_cases hs : bs s < bs hi
                · have Hf := Hnext.out ⟨hr0, fun _ => hs⟩
                  have hs2 : decide (bs s < bs hi) = true := decide_eq_true hs
                  have hs3 : (!decide (bs s < bs hi)) = false := by rw [hs2]; rfl
                  clear Hnext Hstop
                  go_wp2_with fail
                  go_quiet (fail)
                  go_wp2_with fail
                  exact ⟨⟨k + 1, by omega, by go_num, Hf, bel_drewN Hbel.out _⟩, by simp [intOf]; omega⟩
                · have Hf := Hstop.out fun h => hs (h.2 rfl)
                  clear Hnext Hstop
                  go_wp2_with fail
                  go_quiet (fail)
                  go_wp2_with fail
                  go_ret
                  exact ⟨by rw [Hf.out]; rfl, bel_drewN (below_of Hbel.out) _⟩
              · have Hf := Hnext.out ⟨hr0, fun h => absurd h (by simp)⟩
                clear Hnext Hstop
                go_wp2_with fail
                go_quiet (fail)
                go_wp2_with fail
                exact ⟨⟨k + 1, by omega, by go_num, Hf, bel_drewN Hbel.out _⟩, by simp [intOf]; omega⟩
          · obtain rfl : k = n := by omega
            have hfin := (Hlast.out fun i h => hall.out i h (by rw [← Hn.out]; exact h)).out
            have HB := Lib.hid (below_of hbel)
            clear hall hbel Hgood Hlast Hbel
            cases la
            · by_cases h0 : ri = 0
              · have hr : Hid (r = false) := by
                  cases r
                  · rfl
                  · exact absurd h0 ((hfin.1 rfl).2 rfl)
                subst h0
                clear hfin
                go_wp2_with fail
                go_ret
                exact ⟨by rw [hr.out]; rfl, HB.out⟩
              · have hr : Hid (r = true) := hfin.2 ⟨fun h => absurd h (by simp), fun _ => h0⟩
                have h1 : (ri != 0) = true := by simpa using h0
                clear hfin
                go_wp2_with fail
                go_ret
                exact ⟨by rw [hr.out]; simp, HB.out⟩
            · by_cases he : bs hi = []
              · have hi0 : hi = ⟨#[]⟩ := ba_ext he
                subst hi0
                by_cases h0 : ri = 0
                · have hr : Hid (r = true) := hfin.2 ⟨fun _ => ⟨rfl, h0⟩, fun h => absurd h (by simp)⟩
                  subst h0
                  clear hfin
                  go_wp2_with fail
                  go_ret
                  exact ⟨by rw [hr.out]; rfl, HB.out⟩
                · have hr : Hid (r = false) := by
                    cases r
                    · rfl
                    · exact absurd ((hfin.1 rfl).1 rfl).2 h0
                  have h1 : (ri == 0) = false := by simpa using h0
                  clear hfin
                  go_wp2_with fail
                  go_ret
                  exact ⟨by rw [hr.out]; simp, HB.out⟩
              · have hr : Hid (r = false) := by
                  cases r
                  · rfl
                  · exact absurd ((hfin.1 rfl).1 rfl).1 he
                have h1 : (bs hi == []) = false := by simpa using he
                have h2 : (bs hi == bs ⟨#[]⟩) = false := h1
                clear hfin he
                go_wp2_with fail
                go_ret
                exact ⟨by rw [hr.out]; rfl, HB.out⟩
  · have hz : Hid (r = false) := hbad fun ho => hh ho.1
    by_cases h1 : lv < 0
    · clear hk hbad hn hh ha
      go_enter Try.func11, Try.ntmps11
      go_wp2_with fail
      go_ret
      exact ⟨by rw [hz.out]; rfl, hB⟩
    · by_cases h2 : fan < (n : Int)
      · clear hk hbad hn hh ha
        go_enter Try.func11, Try.ntmps11
        go_wp2_with fail
        go_ret
        exact ⟨by rw [hz.out]; rfl, hB⟩
      · have h3 : 0 < lv ∧ n = 0 := by
          by_cases g : 0 < lv ∧ n = 0
          · exact g
          · exact absurd ⟨by omega, by rw [hn]; omega, fun _ => by omega⟩ hh
        obtain ⟨h3, rfl⟩ := h3
        clear hk hbad hn hh ha
        go_enter Try.func11, Try.ntmps11
        go_wp2_with fail
        go_ret
        exact ⟨by rw [hz.out]; rfl, hB⟩
end Go.Proofs.Ytabmokekibgjeaa
