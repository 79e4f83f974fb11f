/-
  KeysSeparatorsAscend: the law returns true on every input. (The walk.)
-/
import Derived.Test.YtlkpfdmkhakkiaaKeys
namespace Go.Proofs.Ytlkpfdmkhakkiaa
open Go.RowKit
attribute [local go_sem] Pl.bl_eq Pl.le_dec Pl.gt_dec tl bs_ex0

set_option maxHeartbeats 2000000 in
theorem ascend_core (A : Option Addr) (n c : Nat) (K : List ByteArray) (w : World) (hK1 : K.length ≤ 20) (HK2 : Hid (∀ x ∈ K, x.size ≤ 32)) (HLt : Hid (∀ i j, i < j → ∀ hj : j < K.length, ∀ hi : i < K.length, bs K[i] < bs K[j]))
    (Hk : Hid (Calls Try.prog 10 #[.slice A n c, .int .i64 20] w fun e w' => ∃ u, e = .returned u ∧ w'.ownsRow w.heap.size 9 1 u K.length (K.map .string) ∧ Below w.heap.size w w')) :
    Calls Try.prog 4 #[.slice A n c] w fun e w' => e = .returned (.bool true) ∧ Below w.heap.size w w' := by
  go_enter Try.func4, Try.ntmps4
  go_wp2_with fail
  refine Hk.out.mono ?_
  rintro e w0 ⟨u, rfl, hown, hbel0⟩
  obtain ⟨A0, c0, rfl, _, _⟩ := own_slice hown
  have hrd := Rd.of_own hown
  have Hbel0 := Lib.hid hbel0
  clear hown hbel0
  go_wp2_with fail
  go_loopw [4, 5] (fun t i wr => ∃ (j : Nat) (t' : ByteArray), 1 ≤ j ∧ (j ≤ K.length ∨ j = 1) ∧ i = .int .i64 j ∧ t = .string t' ∧ Hid (j = 1 ∨ (∀ h : j - 1 < K.length, ¬ bs K[j - 1] < bs t')) ∧ Below w0.heap.size w0 wr) (fun _ i _ => K.length + 1 - (intOf i).toNat)
  case atStart => exact ⟨1, _, Nat.le_refl _, .inr rfl, rfl, rfl, .inl rfl, Below.refl _ _⟩
  case round =>
    obtain ⟨j, t', hj1, hj, rfl, rfl, ht, hbel⟩ := hrel
    by_cases hlt : j < K.length
    · obtain ⟨b, off, rfl, hbl, hcell⟩ := hrd.2 (by omega)
      have hc0 : wr.cell? ⟨b, off + j, none⟩ = some (.string K[j]) := by
        rw [hbel.cell (p := ⟨b, off + j, none⟩) hbl, hcell _ (by omega)]
        simp [hlt]
      have hc1 : wr.cell? ⟨b, off + (j - 1), none⟩ = some (.string K[j - 1]) := by
        rw [hbel.cell (p := ⟨b, off + (j - 1), none⟩) hbl, hcell _ (by omega)]
        simp [show j - 1 < K.length from by omega]
      have hlt1 : bs K[j - 1] < bs K[j] := HLt.out (j - 1) j (by omega) hlt (by omega)
      have hsy := HK2.out K[j] (List.getElem_mem hlt)
      have ht2 : 1 < j → ¬ bs K[j - 1] < bs t' := fun h => by
        rcases ht.out with h' | h'
        · omega
        · exact h' _
      have hnext : ∀ s : ByteArray, ¬ bs K[j] < bs s → Hid (j + 1 = 1 ∨ (∀ h : j + 1 - 1 < K.length, ¬ bs K[j + 1 - 1] < bs s)) := fun s hs => .inr fun h => by simpa using hs
      have Hnext := Lib.hid hnext
      clear hcell ht hnext
      generalize K[j - 1] = x at hc1 hlt1 ht2
      generalize K[j] = y at hc0 hlt1 hsy Hnext
      obtain ⟨m, h1, h2, h3, h4, h5, h6, h7⟩ := Pl.sep_of_lt hlt1
      obtain ⟨s, hs⟩ : ∃ s : ByteArray, Pl.sep (bs x) (bs y) = bs s := ⟨⟨(Pl.sep (bs x) (bs y)).toArray⟩, rfl⟩
      rw [hs] at h5 h6
      have Hs := Lib.hid hs
      clear hs h3 h4 h7 h1 h2
      have Hx := Lib.hid hlt1
      clear hlt1
      by_cases hj2 : 1 < j
      · have h8 : bs t' < bs s := Pl.nlt_lt (ht2 hj2) h5
        clear ht2
        go_wp2_with fail
        go_quiet ((go_at_call 9; exact Calls.quiet_of_same ((sepAt x y s _ (by omega) Hs.out).mono fun _ _ ⟨he, hw⟩ => ⟨he, hw.symm⟩)))
        go_wp2_with fail
        exact ⟨⟨j + 1, s, by omega, .inl (by omega), by go_num, rfl, Hnext.out s h6, bel_drewN hbel _⟩, by simp [intOf]; omega⟩
      · clear ht2
        go_wp2_with fail
        go_quiet ((go_at_call 9; exact Calls.quiet_of_same ((sepAt x y s _ (by omega) Hs.out).mono fun _ _ ⟨he, hw⟩ => ⟨he, hw.symm⟩)))
        go_wp2_with fail
        exact ⟨⟨j + 1, s, by omega, .inl (by omega), by go_num, rfl, Hnext.out s h6, bel_drewN hbel _⟩, by simp [intOf]; omega⟩
    · go_wp2_with fail
      refine (awake_any _).mono ?_
      rintro e w' ⟨rfl, rfl⟩
      go_wp2_with fail
      go_ret
      exact ⟨rfl, Hbel0.out.trans (hbel.mono Hbel0.out.size)⟩


theorem ascend_any (A : Option Addr) (n c : Nat) (ss : List ByteArray) (w : World) (hn : ss.length = n) (hr : Rd w 1 A n (ss.map .string)) (hm : n ≤ maxLen) (hsz : ∀ s ∈ ss, s.size ≤ maxLen) :
    Calls Try.prog 4 #[.slice A n c] w fun e w' => e = .returned (.bool true) ∧ Below w.heap.size w w' :=
  ascend_core A n c (keysOf ss 20) w (keysOf_ok ss 20).1 (keysOf_ok ss 20).2.1 (fun i j hij hj _ => keysOf_lt ss 20 i j hij hj) (keys_any A n c ss w hn hr hm hsz)
end Go.Proofs.Ytlkpfdmkhakkiaa
