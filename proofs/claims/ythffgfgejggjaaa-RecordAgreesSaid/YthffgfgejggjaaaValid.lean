/-
  The contract of the law's own 'valid': the chain that it makes.
-/
import Derived.Test.YthffgfgejggjaaaCheck
namespace Go.Proofs.Ythffgfgejggjaaa
open Go.RowKit

theorem own_some {w : World} {base sz n : Nat} {e : TypeId} {v : Value} {xs : List Value} (h : w.ownsRow base e sz v n xs) (hn : 0 < n) : ∃ g cap, v = .slice (some ⟨g, 0, none⟩) n cap ∧ base ≤ g ∧ n ≤ cap := by
  rcases h.2 with ⟨_, h0⟩ | ⟨g, cap, cur, hv, hg, _, h1, _⟩
  · omega
  · exact ⟨g, cap, hv, hg, h1⟩
theorem one_fV1 (v : Pl.Ver) : ∀ u ∈ fV v, u.oneCell' = true := by
  intro u hu
  simp [fV] at hu
  rcases hu with rfl | rfl | rfl <;> rfl

theorem lit2 {base : Nat} (wr : World) (o : Obj) (v : Pl.Ver) (hb : base ≤ wr.heap.size) : ((wr.alloc o).alloc (.cells #[.int .u64 v.1, .string v.2.1, .bool v.2.2] 27)).ownsRow base 27 3 (.slice (some ⟨wr.heap.size + 1, 0, none⟩) 1 1) 1 (fV v) := by
  have := World.ownsRow_lit (base := base) (e := 27) (size := 3) (wr.alloc o) #[.int .u64 v.1, .string v.2.1, .bool v.2.2] 1 (by simp; omega) (by unfold maxLen; omega) rfl
  have e : (wr.alloc o).heap.size = wr.heap.size + 1 := by simp
  rw [e] at this
  exact this

set_option maxHeartbeats 4000000 in
theorem valid_any (A : Option Addr) (n c : Nat) (raw : List Pl.Ver) (p : Bool) (w : World) (hn : raw.length = n) (hr : Rd w 3 A n (raw.flatMap fV)) (hm : n ≤ maxLen) (hwf : ∀ v ∈ raw, 0 ≤ v.1) :
    Calls Try.prog 9 #[.slice A n c, .bool p] w fun e w' => ∃ u, e = .returned u ∧ w'.ownsRow w.heap.size 27 3 u (Pl.made raw p).length ((Pl.made raw p).flatMap fV) ∧ Below w.heap.size w w' := by
  unfold maxLen at hm
  obtain ⟨i0, hi, hz0, hz1, hz2⟩ := info_parts Try.info27
  have hn' := Lib.hid hn
  go_enter Try.func9, Try.ntmps9
  clear hn
  go_wp2_with fail
  go_loopw [5, 6, 7] (fun o x i wr => ∃ k : Nat, k ≤ n ∧ k ≤ 30 ∧ i = .int .i64 k ∧ x = .int .u64 (Pl.madeK raw k).2 ∧ wr.ownsRow w.heap.size 27 3 o k ((Pl.madeK raw k).1.flatMap fV) ∧ (k = 0 → o = .slice none 0 0) ∧ Below w.heap.size w wr) (fun _ _ i _ => n - (intOf i).toNat)
  case atStart => exact ⟨0, Nat.zero_le _, Nat.zero_le _, rfl, rfl, World.ownsRow_nil _ _ _ _, fun _ => rfl, Below.refl _ _⟩
  case round =>
    obtain ⟨k, hk, hk30, rfl, rfl, hown, hnil, hbel⟩ := hrel
    have hmk := Pl.madeK_ok raw k (by rw [hn'.out]; exact hk)
    by_cases hlt : k < n ∧ k < 30
    · obtain ⟨hlt, hlt2⟩ := hlt
      obtain ⟨b, off, rfl, hbl, hcell⟩ := hr.2 (by omega)
      have hkl : k < raw.length := by rw [hn'.out]; exact hlt
      obtain ⟨hc0, hc1, hc2⟩ := cells3 hn'.out hbl hcell hbel k hkl
      have hs0 := hwf raw[k] (List.getElem_mem hkl)
      have hsz := hbel.size
      have hbw : b < wr.heap.size := by omega
      have hstep := Lib.hid (Pl.madeK_succ raw k hkl)
      have hx1 := hmk.2.1
      have hx2 := hmk.2.2.1
      have hll := hmk.1
      clear hcell hwf hmk
      generalize raw[k] = x at hc0 hc1 hc2 hs0 hstep
      generalize Pl.madeK raw k = st at hown hx1 hx2 hll hstep
      obtain ⟨s, v, d⟩ := x
      obtain ⟨l, nx⟩ := st
      dsimp only at hc0 hc1 hc2 hs0 hown hx1 hx2 hll
      have hs5 := Int.emod_lt_of_pos s (show (0 : Int) < 5 by decide)
      have hs5' := Int.emod_nonneg s (show (5 : Int) ≠ 0 by decide)
      rcases Nat.eq_zero_or_pos k with h0 | h0
      · have hnil' := hnil h0
        subst h0
        subst hnil'
        simp only [Nat.zero_mul, Nat.add_zero] at hc0 hc1 hc2
        clear hnil
        have hl0 : l = [] := List.eq_nil_of_length_eq_zero hll
        cases d
        · have hlit := lit2 (base := w.heap.size) wr (.cells #[.int .u64 nx, .string v, .bool false] 27) (nx, v, false) hsz
          have hbel1 := (hbel.alloc hsz (.cells #[.int .u64 nx, .string v, .bool false] 27)).alloc (by simp; omega) (.cells #[.int .u64 nx, .string v, .bool false] 27)
          have Hlit := Lib.hid hlit
          clear hlit
          go_wp2_with fail
          refine ⟨⟨0 + 1, by omega, by omega, by go_num, ?_, ?_, fun h => by omega, hbel1⟩, by simp [intOf]; omega⟩
          · rw [hstep.out]; rfl
          · rw [hstep.out, hl0]; exact Hlit.out
        · have hlit := lit2 (base := w.heap.size) wr (.cells #[.int .u64 nx, .string ⟨#[]⟩, .bool true] 27) (nx, ⟨#[]⟩, true) hsz
          have hbel1 := (hbel.alloc hsz (.cells #[.int .u64 nx, .string ⟨#[]⟩, .bool true] 27)).alloc (by simp; omega) (.cells #[.int .u64 nx, .string ⟨#[]⟩, .bool true] 27)
          have Hlit := Lib.hid hlit
          clear hlit
          go_wp2_with fail
          refine ⟨⟨0 + 1, by omega, by omega, by go_num, ?_, ?_, fun h => by omega, hbel1⟩, by simp [intOf]; omega⟩
          · rw [hstep.out]; rfl
          · rw [hstep.out, hl0]; exact Hlit.out
      · obtain ⟨g, cap, rfl, hg, hgc⟩ := own_some hown h0
        have hrd0 := Rd.of_own hown
        clear hnil
        cases d
        · have hlit := lit2 (base := w.heap.size) wr (.cells #[.int .u64 nx, .string v, .bool false] 27) (nx, v, false) hsz
          have hbel1 := (hbel.alloc hsz (.cells #[.int .u64 nx, .string v, .bool false] 27)).alloc (by simp; omega) (.cells #[.int .u64 nx, .string v, .bool false] 27)
          have hrd := (hrd0.below ((Below.refl _ _).alloc (Nat.le_refl _) (.cells #[.int .u64 nx, .string v, .bool false] 27))).below ((Below.refl _ _).alloc (Nat.le_refl _) (.cells #[.int .u64 nx, .string v, .bool false] 27))
          have Hlit := Lib.hid hlit
          have Hrd := Lib.hid hrd
          clear hlit hrd hrd0
          go_wp2_with (at_builtin; refine wpList_append_own _ rfl (.tmp 38) (.tmp 39) 22 rfl w.heap.size 27 i0 _ 3 32 Try.underlying22 hi hz0 hz1 hz2 rfl (by decide) _ 1 _ rfl Hlit.out ⟨g, 0, none⟩ k cap (l.flatMap fV) rfl Hrd.out.1 Hrd.out.news (one_fV l) (by unfold maxLen; omega) (by omega) (by simp; omega) ?_; intro o' w2 hown' hgrow hn2)
          have hbel2 := hbel1.grown hgrow (by simp; omega) fun j hj => (Hlit.out.lt j hj).1
          rw [Nat.add_comm] at hown'
          have Hown := Lib.hid hown'
          clear hown' hgrow hn2
          go_wp2_with fail
          refine ⟨⟨k + 1, by omega, by omega, by go_num, ?_, ?_, fun h => by omega, hbel2⟩, by simp [intOf]; omega⟩
          · rw [hstep.out]; rfl
          · rw [hstep.out]; exact Hown.out
        · have hlit := lit2 (base := w.heap.size) wr (.cells #[.int .u64 nx, .string ⟨#[]⟩, .bool true] 27) (nx, ⟨#[]⟩, true) hsz
          have hbel1 := (hbel.alloc hsz (.cells #[.int .u64 nx, .string ⟨#[]⟩, .bool true] 27)).alloc (by simp; omega) (.cells #[.int .u64 nx, .string ⟨#[]⟩, .bool true] 27)
          have hrd := (hrd0.below ((Below.refl _ _).alloc (Nat.le_refl _) (.cells #[.int .u64 nx, .string ⟨#[]⟩, .bool true] 27))).below ((Below.refl _ _).alloc (Nat.le_refl _) (.cells #[.int .u64 nx, .string ⟨#[]⟩, .bool true] 27))
          have Hlit := Lib.hid hlit
          have Hrd := Lib.hid hrd
          clear hlit hrd hrd0
          go_wp2_with (at_builtin; refine wpList_append_own _ rfl (.tmp 38) (.tmp 39) 22 rfl w.heap.size 27 i0 _ 3 32 Try.underlying22 hi hz0 hz1 hz2 rfl (by decide) _ 1 _ rfl Hlit.out ⟨g, 0, none⟩ k cap (l.flatMap fV) rfl Hrd.out.1 Hrd.out.news (one_fV l) (by unfold maxLen; omega) (by omega) (by simp; omega) ?_; intro o' w2 hown' hgrow hn2)
          have hbel2 := hbel1.grown hgrow (by simp; omega) fun j hj => (Hlit.out.lt j hj).1
          rw [Nat.add_comm] at hown'
          have Hown := Lib.hid hown'
          clear hown' hgrow hn2
          go_wp2_with fail
          refine ⟨⟨k + 1, by omega, by omega, by go_num, ?_, ?_, fun h => by omega, hbel2⟩, by simp [intOf]; omega⟩
          · rw [hstep.out]; rfl
          · rw [hstep.out]; exact Hown.out
    · have hkm : k = min n 30 := by omega
      have hmade : Pl.made raw p = Pl.pend p (Pl.madeK raw k).1 := by unfold Pl.made; rw [hn'.out, ← hkm]
      have Hm := Lib.hid hmade
      have hll := hmk.1
      have hor : ¬ k < n ∨ (k < n ∧ ¬ k < 30) := by omega
      generalize Pl.madeK raw k = st at hown hll Hm
      obtain ⟨l, nx⟩ := st
      dsimp only at hown hll
      clear hmk hmade hkm hr hwf hlt
      cases p
      · have hfin : Pl.made raw false = l := by rw [Hm.out]; cases l <;> rfl
        rcases hor with hor | ⟨h1, h2⟩ <;>
          (have Hfin := Lib.hid hfin
           clear hfin
           go_wp2_with fail
           go_ret
           refine ⟨_, rfl, ?_, hbel⟩
           rw [Hfin.out, hll]
           exact hown)
      · rcases Nat.eq_zero_or_pos k with h0 | h0
        · have hnil' := hnil h0
          subst h0
          subst hnil'
          have hl0 : l = [] := List.eq_nil_of_length_eq_zero hll
          have hfin : Pl.made raw true = [] := by rw [Hm.out, hl0]; rfl
          clear hnil
          have hn0 : n = 0 := by omega
          have Hfin := Lib.hid hfin
          clear hfin hor
          go_wp2_with fail
          go_ret
          refine ⟨_, rfl, ?_, hbel⟩
          rw [Hfin.out]
          exact World.ownsRow_nil _ _ _ _
        · obtain ⟨g, cap, rfl, hg, hgc⟩ := own_some hown h0
          cases l with
          | nil => exact absurd hll (by simp; omega)
          | cons x l =>
            obtain ⟨s, v, d⟩ := x
            have hfin : Pl.made raw true = (0, v, d) :: l := by rw [Hm.out]; rfl
            have hst := hown.stored 0 (.int .u64 0)
            have hfz := hown.frozenAt 0
            have hcl : wr.cell? ⟨g, 0, none⟩ = some (.int .u64 s) := by rw [hown.cellAt 0 (by omega)]; rfl
            have Hst := Lib.hid hst
            have Hfin := Lib.hid hfin
            clear hst hfin hnil hown
            rcases hor with hor | ⟨h1, h2⟩
            all_goals
              go_wp2_with fail
              go_ret
              refine ⟨_, rfl, ?_, hbel.setCell hg _⟩
              rw [Hfin.out, show ((0, v, d) :: l : List Pl.Ver).length = k from hll]
              exact Hst.out.1
end Go.Proofs.Ythffgfgejggjaaa
