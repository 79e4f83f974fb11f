/-
  The contracts of page.Check, the reference's Ascending and Check.
-/
import Derived.Test.YtabmokekibgjeaaRefIns
namespace Go.Proofs.Ytabmokekibgjeaa
open Go.RowKit
attribute [local go_sem] Pl.bl_eq Pl.le_dec Pl.gt_dec tl bs_ex0

namespace Pl
/-- What Check asks of slot i. -/
def good (l : List Slot) (hi : ByteArray) (la : Bool) (i : Nat) (h : i < l.length) : Prop := l[i].2 ≠ 0 ∧ (0 < i → bs (l[i - 1]'(by omega)).1 < bs l[i].1) ∧ (la = false → bs l[i].1 < bs hi)
def fin (hi : ByteArray) (la : Bool) (ri : Int) : Prop := (la = true → bs hi = [] ∧ ri = 0) ∧ (la = false → ri ≠ 0)
def head (lv : Int) (l : List Slot) (fan : Int) : Prop := 0 ≤ lv ∧ (l.length : Int) ≤ fan ∧ (0 < lv → 0 < l.length)
def ok (lv : Int) (l : List Slot) (hi : ByteArray) (la : Bool) (ri fan : Int) : Prop := head lv l fan ∧ (∀ i (h : i < l.length), good l hi la i h) ∧ fin hi la ri
def ok2 (lv : Int) (l : List Slot) (hi : ByteArray) (la : Bool) (ri fan : Int) : Prop := head lv l fan ∧ Asc l ∧ (∀ i (h : i < l.length), l[i].2 ≠ 0 ∧ (la = false → bs l[i].1 < bs hi)) ∧ fin hi la ri
theorem asc_step {l : List Slot} : Asc l ↔ ∀ i (_ : 0 < i) (h : i < l.length), bs (l[i - 1]'(by omega)).1 < bs l[i].1 := by
  constructor
  · intro ha i h0 h
    exact asc_lt ha (by omega) h
  · intro hs
    have key : ∀ d i (h : i + d + 1 < l.length), bs (l[i]'(by omega)).1 < bs l[i + d + 1].1 := by
      intro d
      induction d with
      | zero => exact fun i h => hs (i + 1) (by omega) h
      | succ d ih => exact fun i h => lt_tr (ih i (by omega)) (hs (i + (d + 1) + 1) (by omega) h)
    refine List.pairwise_iff_getElem.2 fun i j hi hj hij => ?_
    have := key (j - i - 1) i (by omega)
    simpa [show i + (j - i - 1) + 1 = j by omega] using this
theorem ok_iff {lv : Int} {l : List Slot} {hi : ByteArray} {la : Bool} {ri fan : Int} : ok lv l hi la ri fan ↔ ok2 lv l hi la ri fan := by
  unfold ok ok2 good
  rw [asc_step]
  constructor
  · rintro ⟨h1, h2, h3⟩
    exact ⟨h1, fun i h0 h => (h2 i h).2.1 h0, fun i h => ⟨(h2 i h).1, (h2 i h).2.2⟩, h3⟩
  · rintro ⟨h1, h2, h3, h4⟩
    exact ⟨h1, fun i h => ⟨(h3 i h).1, fun h0 => h2 i h0 h, (h3 i h).2⟩, h4⟩
end Pl

set_option maxHeartbeats 40000000 in
theorem checkAt (lv : Int) (A : Option Addr) (n c : Nat) (l : List Pl.Slot) (hi : ByteArray) (la : Bool) (ri : Int) (fan : Int) (r : Bool) (w : World) (hn : l.length = n) (hr : Rd w 2 A n (l.flatMap fS)) (hb : n ≤ 1000) (hk : r = true ↔ Pl.ok lv l hi la ri fan) :
    Calls Try.prog 10 #[.agg #[.int .i64 lv, .slice A n c, .string hi, .bool la, .int .u64 ri], .int .i64 fan] w fun e w' => e = .returned (.bool r) ∧ Below w.heap.size w w' := by
  have Hn := Lib.hid hn
  have Hr := Lib.hid hr
  have hbad : ¬ Pl.ok lv l hi la ri fan → r = false := fun h => by cases r <;> simp_all
  by_cases hh : Pl.head lv l fan
  · obtain ⟨hh1, hh2, hh3⟩ := id hh
    rw [hn] at hh2 hh3
    have hfan : ¬ fan < (n : Int) := by omega
    have hgood : ∀ i (h : i < l.length), ¬ Pl.good l hi la i h → Hid (r = false) := fun i h hg => hbad fun ho => hg (ho.2.1 i h)
    have hlast : (∀ i (h : i < l.length), Pl.good l hi la i h) → Hid (r = true ↔ Pl.fin hi la ri) := fun h => hk.trans ⟨fun ho => ho.2.2, fun ho => ⟨hh, h, ho⟩⟩
    have Hgood := Lib.hid hgood
    have Hlast := Lib.hid hlast
    have h1 : ¬ lv < 0 := by omega
    clear hn hr hk hbad hgood hlast hh
    have h2 : 0 < lv ∧ 0 < n ∨ ¬ 0 < lv := by omega
    go_enter Try.func10, Try.ntmps10
    rcases h2 with ⟨h2, h3⟩ | h2
    all_goals
      go_wp2_with fail
      go_loopw [31] (fun i wr => ∃ k : Nat, k ≤ n ∧ i = .int .i64 k ∧ Hid (∀ i (h : i < l.length), i < k → Pl.good l hi la i h) ∧ Below (w.alloc (.cells #[.int .i64 lv, .slice A n c, .string hi, .bool la, .int .u64 ri] 25)).heap.size (w.alloc (.cells #[.int .i64 lv, .slice A n c, .string hi, .bool la, .int .u64 ri] 25)) wr) (fun i _ => n - (intOf i).toNat)
      case atStart => exact ⟨0, Nat.zero_le _, rfl, fun i _ h => absurd h (by omega), Below.refl _ _⟩
      case round =>
        obtain ⟨k, hk, rfl, hall, hbel⟩ := hrel
        obtain ⟨q0, q1, q2, q3, q4⟩ := box25 hbel
        have hsz := hbel.size
        have Hbel := Lib.hid hbel
        by_cases hlt : k < n
        · obtain ⟨b, off, rfl, hbl, hcell⟩ := Hr.out.2 (by omega)
          have hkl : k < l.length := by rw [Hn.out]; omega
          obtain ⟨hc0, hc1⟩ := cells2 Hn.out hbl hcell (below_of hbel) k hkl
          have hnext : Pl.good l hi la k hkl → Hid (∀ i (h : i < l.length), i < k + 1 → Pl.good l hi la i h) := fun h i hil hik => by
            by_cases e : i = k
            · subst e; exact h
            · exact hall.out i hil (by omega)
          have Hnext := Lib.hid hnext
          have Hstop := Lib.hid (Hgood.out k hkl)
          clear hnext
          have hw3 : 0 < k → wr.cell? ⟨b, off + (k - 1) * 2, none⟩ = some (.string (l[k - 1]'(by omega)).1) := fun h => (cells2 Hn.out hbl hcell (below_of hbel) (k - 1) (by omega)).1
          have Hprev := Lib.hid hw3
          clear hw3 hcell hbel hall
          by_cases hr0 : l[k].2 = 0
          · have Hf := Lib.hid (Hstop.out fun h => h.1 hr0).out
            rw [hr0] at hc1
            clear Hnext Hstop Hprev
            generalize l[k].1 = s at hc0
            go_wp2_with fail
            go_quiet (fail)
            go_wp2_with fail
            go_ret
            exact ⟨by rw [Hf.out]; rfl, bel_drewN ((below_of Hbel.out).alloc (Nat.le_trans (bel_box w _).size hsz) _) _⟩
          · have l0 : w.heap.size < wr.heap.size := by simp at hsz; omega
            have l1 : b < wr.heap.size := by omega
            have hr1 : (l[k].2 == 0) = false := by simpa using hr0
            have Hle : Hid (la = false → bs l[k].1 < bs hi → (0 < k → bs (l[k - 1]'(by omega)).1 < bs l[k].1) → Hid (∀ i (h : i < l.length), i < k + 1 → Pl.good l hi la i h)) := fun _ h1 h2 => Hnext.out ⟨hr0, h2, fun _ => h1⟩
            have Hla : Hid (la = true → (0 < k → bs (l[k - 1]'(by omega)).1 < bs l[k].1) → Hid (∀ i (h : i < l.length), i < k + 1 → Pl.good l hi la i h)) := fun h1 h2 => Hnext.out ⟨hr0, h2, fun h => by rw [h1] at h; exact absurd h (by simp)⟩
            have Hs1 : Hid (∀ _ : 0 < k, ¬ bs (l[k - 1]'(by omega)).1 < bs l[k].1 → Hid (r = false)) := fun h0 h => Hstop.out fun g => h (g.2.1 h0)
            have Hs2 : Hid (la = false → ¬ bs l[k].1 < bs hi → Hid (r = false)) := fun h0 h => Hstop.out fun g => h (g.2.2 h0)
            clear Hnext Hstop
            rcases Nat.eq_zero_or_pos k with h0 | h0
            · subst h0
              simp only [Nat.zero_mul, Nat.add_zero] at hc0 hc1
              clear Hs1 Hprev
              have Hle2 := Lib.hid fun a b => Hle.out a b (fun h => absurd h (by omega))
              have Hla2 := Lib.hid fun a => Hla.out a (fun h => absurd h (by omega))
              clear Hle Hla
              generalize l[0] = x at hc0 hc1 hr0 hr1 Hle2 Hs2
              obtain ⟨s, v⟩ := x
              dsimp only at hc0 hc1 hr0 hr1 Hle2 Hs2
              have q1' := ((bel_box wr (.cells #[.string s, .int .u64 v] 32)).cell (p := ⟨w.heap.size, 1, none⟩) l0).trans q1
              have q2' := ((bel_box wr (.cells #[.string s, .int .u64 v] 32)).cell (p := ⟨w.heap.size, 2, none⟩) l0).trans q2
              have q3' := ((bel_box wr (.cells #[.string s, .int .u64 v] 32)).cell (p := ⟨w.heap.size, 3, none⟩) l0).trans q3
              cases la
              · by_cases hs : bs s < bs hi
                · have Hf := Hle2.out rfl hs
                  clear Hle2 Hs2 Hla2
                  (go_wp2_with fail
                   go_quiet (fail)
                   go_wp2_with fail
                   exact ⟨⟨0 + 1, by omega, by go_num, Hf, bel_drewN (Hbel.out.alloc hsz _) _⟩, by simp [intOf]; omega⟩)
                · have Hf := Hs2.out rfl hs
                  clear Hle2 Hs2 Hla2
                  (go_wp2_with fail
                   go_quiet (fail)
                   go_wp2_with fail
                   go_ret
                   exact ⟨by rw [Hf.out]; rfl, bel_drewN ((below_of Hbel.out).alloc (Nat.le_trans (bel_box w _).size hsz) _) _⟩)
              · have Hf := Hla2.out rfl
                clear Hle2 Hs2 Hla2
                (go_wp2_with fail
                 go_quiet (fail)
                 go_wp2_with fail
                 exact ⟨⟨0 + 1, by omega, by go_num, Hf, bel_drewN (Hbel.out.alloc hsz _) _⟩, by simp [intOf]; omega⟩)
            · have hp := Hprev.out h0
              have d0 : decide (0 < k) = true := by simpa using h0
              have i0 : (0 : Int) < (k : Int) := by omega
              have Hle2 := Lib.hid fun a b c => Hle.out a b (fun _ => c)
              have Hla2 := Lib.hid fun a c => Hla.out a (fun _ => c)
              have Hs3 := Lib.hid (Hs1.out h0)
              clear Hle Hla Hs1 Hprev
              generalize l[k - 1]'(by omega) = y at hp Hle2 Hla2 Hs3
              generalize l[k] = x at hc0 hc1 hr0 hr1 Hle2 Hla2 Hs2 Hs3
              obtain ⟨s, v⟩ := x
              obtain ⟨p, v'⟩ := y
              dsimp only at hc0 hc1 hr0 hr1 Hle2 Hla2 Hs2 Hs3 hp
              have q1' := ((bel_box wr (.cells #[.string s, .int .u64 v] 32)).cell (p := ⟨w.heap.size, 1, none⟩) l0).trans q1
              have q2' := ((bel_box wr (.cells #[.string s, .int .u64 v] 32)).cell (p := ⟨w.heap.size, 2, none⟩) l0).trans q2
              have q3' := ((bel_box wr (.cells #[.string s, .int .u64 v] 32)).cell (p := ⟨w.heap.size, 3, none⟩) l0).trans q3
              have hp' := ((bel_box wr (.cells #[.string s, .int .u64 v] 32)).cell (p := ⟨b, off + (k - 1) * 2, none⟩) l1).trans hp
              have hki : (k : Int) - 1 = ((k - 1 : Nat) : Int) := by omega
              by_cases hps : bs p < bs s
              · cases la
                · by_cases hs : bs s < bs hi
                  · have Hf := Hle2.out rfl hs hps
                    clear Hle2 Hs2 Hla2 Hs3
                    (go_wp2_with fail
                     go_quiet (fail)
                     go_wp2_with fail
                     exact ⟨⟨k + 1, by omega, by go_num, Hf, bel_drewN (Hbel.out.alloc hsz _) _⟩, by simp [intOf]; omega⟩)
                  · have Hf := Hs2.out rfl hs
                    clear Hle2 Hs2 Hla2 Hs3
                    (go_wp2_with fail
                     go_quiet (fail)
                     go_wp2_with fail
                     go_ret
                     exact ⟨by rw [Hf.out]; rfl, bel_drewN ((below_of Hbel.out).alloc (Nat.le_trans (bel_box w _).size hsz) _) _⟩)
                · have Hf := Hla2.out rfl hps
                  clear Hle2 Hs2 Hla2 Hs3
                  (go_wp2_with fail
                   go_quiet (fail)
                   go_wp2_with fail
                   exact ⟨⟨k + 1, by omega, by go_num, Hf, bel_drewN (Hbel.out.alloc hsz _) _⟩, by simp [intOf]; omega⟩)
              · have Hf := Hs3.out hps
                clear Hle2 Hs2 Hla2 Hs3
                (go_wp2_with fail
                 go_quiet (fail)
                 go_wp2_with fail
                 go_ret
                 exact ⟨by rw [Hf.out]; rfl, bel_drewN ((below_of Hbel.out).alloc (Nat.le_trans (bel_box w _).size hsz) _) _⟩)
        · obtain rfl : k = n := by omega
          have hfin := (Hlast.out fun i h => hall.out i h (by rw [← Hn.out]; exact h)).out
          have HB := Lib.hid (below_of hbel)
          clear hall hbel Hgood Hlast Hbel hsz
          cases la
          · by_cases h0 : ri = 0
            · have hr : Hid (r = false) := by
                cases r
                · rfl
                · exact absurd h0 ((hfin.1 rfl).2 rfl)
              subst h0
              clear hfin
              go_wp2_with fail
              go_ret
              exact ⟨by rw [hr.out]; rfl, HB.out⟩
            · have hr : Hid (r = true) := hfin.2 ⟨fun h => absurd h (by simp), fun _ => h0⟩
              have h1 : (ri != 0) = true := by simpa using h0
              clear hfin
              go_wp2_with fail
              go_ret
              exact ⟨by rw [hr.out]; simp, HB.out⟩
          · by_cases he : bs hi = []
            · have hi0 : hi = ⟨#[]⟩ := ba_ext he
              subst hi0
              by_cases h0 : ri = 0
              · have hr : Hid (r = true) := hfin.2 ⟨fun _ => ⟨rfl, h0⟩, fun h => absurd h (by simp)⟩
                subst h0
                clear hfin
                go_wp2_with fail
                go_ret
                exact ⟨by rw [hr.out]; rfl, HB.out⟩
              · have hr : Hid (r = false) := by
                  cases r
                  · rfl
                  · exact absurd ((hfin.1 rfl).1 rfl).2 h0
                have h1 : (ri == 0) = false := by simpa using h0
                clear hfin
                go_wp2_with fail
                go_ret
                exact ⟨by rw [hr.out]; simp, HB.out⟩
            · have hr : Hid (r = false) := by
                cases r
                · rfl
                · exact absurd ((hfin.1 rfl).1 rfl).1 he
              have h1 : (bs hi == []) = false := by simpa using he
              have h2 : (bs hi == bs ⟨#[]⟩) = false := h1
              clear hfin he
              go_wp2_with fail
              go_ret
              exact ⟨by rw [hr.out]; rfl, HB.out⟩
  · have hz : Hid (r = false) := hbad fun ho => hh ho.1
    have hB := bel_box w (.cells #[.int .i64 lv, .slice A n c, .string hi, .bool la, .int .u64 ri] 25)
    by_cases h1 : lv < 0
    · clear hk hbad hn hh
      go_enter Try.func10, Try.ntmps10
      go_wp2_with fail
      go_ret
      exact ⟨by rw [hz.out]; rfl, hB⟩
    · by_cases h2 : fan < (n : Int)
      · clear hk hbad hn hh
        go_enter Try.func10, Try.ntmps10
        go_wp2_with fail
        go_ret
        exact ⟨by rw [hz.out]; rfl, hB⟩
      · have h3 : 0 < lv ∧ n = 0 := by
          by_cases g : 0 < lv ∧ n = 0
          · exact g
          · exact absurd ⟨by omega, by rw [hn]; omega, fun _ => by omega⟩ hh
        obtain ⟨h3, rfl⟩ := h3
        clear hk hbad hn hh
        go_enter Try.func10, Try.ntmps10
        go_wp2_with fail
        go_ret
        exact ⟨by rw [hz.out]; rfl, hB⟩

set_option maxHeartbeats 2000000 in
theorem ascendingAt (A : Option Addr) (n c : Nat) (l : List Pl.Slot) (r : Bool) (w : World) (hn : l.length = n) (hr : Rd w 2 A n (l.flatMap fS)) (hb : n ≤ 1000) (hk : r = true ↔ Pl.Asc l) :
    Calls Try.prog 28 #[.slice A n c] w fun e w' => e = .returned (.bool r) ∧ Below w.heap.size w w' := by
  have Hn := Lib.hid hn
  have Hr := Lib.hid hr
  have hgood : ∀ i (h0 : 0 < i) (h : i < l.length), ¬ bs (l[i - 1]'(Nat.lt_of_le_of_lt (Nat.sub_le _ _) h)).1 < bs l[i].1 → Hid (r = false) := fun i h0 h hg => by
    cases r
    · rfl
    · exact absurd (Pl.asc_step.1 (hk.1 rfl) i h0 h) hg
  have hlast : (∀ i (_ : 0 < i) (h : i < l.length), bs (l[i - 1]'(Nat.lt_of_le_of_lt (Nat.sub_le _ _) h)).1 < bs l[i].1) → Hid (r = true) := fun h => hk.2 (Pl.asc_step.2 h)
  have Hgood := Lib.hid hgood
  have Hlast := Lib.hid hlast
  clear hn hr hk hgood hlast
  go_enter Try.func28, Try.ntmps28
  go_wp2_with fail
  go_loopw [3] (fun i wr => ∃ k : Nat, 1 ≤ k ∧ k ≤ n + 1 ∧ i = .int .i64 k ∧ Hid (∀ i (_ : 0 < i) (h : i < l.length), i < k → bs (l[i - 1]'(Nat.lt_of_le_of_lt (Nat.sub_le _ _) h)).1 < bs l[i].1) ∧ Below w.heap.size w wr) (fun i _ => n + 1 - (intOf i).toNat)
  case atStart => exact ⟨1, Nat.le_refl _, by omega, rfl, fun i h0 h h1 => absurd h1 (by omega), Below.refl _ _⟩
  case round =>
    obtain ⟨k, hk1, hk, rfl, hall, hbel⟩ := hrel
    by_cases hlt : k < n
    · obtain ⟨b, off, rfl, hbl, hcell⟩ := Hr.out.2 (by omega)
      have hkl : k < l.length := by rw [Hn.out]; omega
      obtain ⟨hc0, _⟩ := cells2 Hn.out hbl hcell hbel k hkl
      obtain ⟨hp0, _⟩ := cells2 Hn.out hbl hcell hbel (k - 1) (by omega)
      have hnext : bs (l[k - 1]'(by omega)).1 < bs l[k].1 → Hid (∀ i (_ : 0 < i) (h : i < l.length), i < k + 1 → bs (l[i - 1]'(Nat.lt_of_le_of_lt (Nat.sub_le _ _) h)).1 < bs l[i].1) := fun h i h0 hil hik => by
        by_cases e : i = k
        · subst e; exact h
        · exact hall.out i h0 hil (by omega)
      have Hnext := Lib.hid hnext
      have Hstop := Lib.hid (Hgood.out k (by omega) hkl)
      have hki : (k : Int) - 1 = ((k - 1 : Nat) : Int) := by omega
      clear hnext hcell
      generalize l[k - 1]'(by omega) = y at hp0 Hnext Hstop
      generalize l[k] = x at hc0 Hnext Hstop
      obtain ⟨s, v⟩ := x
      obtain ⟨p, v'⟩ := y
      dsimp only at hc0 hp0 Hnext Hstop
      by_cases hps : bs p < bs s
      · have Hf := Hnext.out hps
        clear Hnext Hstop
        go_wp2_with fail
        go_quiet (fail)
        go_wp2_with fail
        exact ⟨⟨k + 1, by omega, by omega, by go_num, Hf, bel_drewN hbel _⟩, by simp [intOf]; omega⟩
      · have Hf := Hstop.out hps
        clear Hnext Hstop
        go_wp2_with fail
        go_quiet (fail)
        go_wp2_with fail
        go_ret
        exact ⟨by rw [Hf.out]; rfl, bel_drewN hbel _⟩
    · have Hf := Hlast.out fun i h0 h => hall.out i h0 h (by rw [Hn.out] at h; omega)
      clear hall
      go_wp2_with fail
      go_ret
      exact ⟨by rw [Hf.out]; rfl, hbel⟩

end Go.Proofs.Ytabmokekibgjeaa
