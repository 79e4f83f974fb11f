/-
  Keys: the contract; KeysSeparatorsAscend: the law returns true on every input. (The walks.)
-/
import Derived.Test.YtlkpfdmkhakkiaaPut
import Derived.Test.YtlkpfdmkhakkiaaSorted
namespace Go.Proofs.Ytlkpfdmkhakkiaa
open Go.RowKit
attribute [local go_sem] Pl.bl_eq Pl.le_dec Pl.gt_dec tl bs_ex0

theorem Try.info9 : (Try.prog.info? 9).map (fun i => (i.zero, i.size, i.bytes)) = some (some (.string ⟨#[]⟩), 1, 16) := by kernel_rfl

theorem new1 (w : World) (x : Value) (t : TypeId) : ∀ j u, ([x] : List Value)[j]? = some u → (w.alloc (.cells #[x] t)).cell? ((⟨w.heap.size, 0, none⟩ : Addr).add j) = some u := by
  intro j u hj
  rw [add_zero, World.cell?_alloc_at _ _ _ _ rfl]
  match j, hj with
  | 0, hj => simpa using hj
theorem one1 (a : ByteArray) : ∀ u ∈ ([.string a] : List Value), u.oneCell' = true := by
  intro u hu
  simp at hu
  subst hu; rfl

set_option maxHeartbeats 1000000 in
theorem keys_any (A : Option Addr) (n c : Nat) (ss : List ByteArray) (w : World) (hn : ss.length = n) (hr : Rd w 1 A n (ss.map .string)) (hm : n ≤ maxLen) (hsz : ∀ s ∈ ss, s.size ≤ maxLen) :
    Calls Try.prog 10 #[.slice A n c, .int .i64 20] w fun e w' => ∃ u, e = .returned u ∧ w'.ownsRow w.heap.size 9 1 u (keysOf ss 20).length ((keysOf ss 20).map .string) ∧ Below w.heap.size w w' := by
  unfold maxLen at hm
  have hn' := Lib.hid hn
  go_enter Try.func10, Try.ntmps10
  clear hn
  go_wp2_with fail
  go_loopw [5, 6] (fun o i wr => ∃ (j c' : Nat) (A' : Option Addr), j ≤ n ∧ j ≤ 20 ∧ i = .int .i64 j ∧ o = .slice A' (entsK ss j).length c' ∧ Rd wr 2 A' (entsK ss j).length (cellsE (entsK ss j)) ∧ Below w.heap.size w wr) (fun _ i _ => n - (intOf i).toNat)
  case atStart => exact ⟨0, 0, none, Nat.zero_le _, Nat.zero_le _, rfl, rfl, ⟨rfl, fun h => absurd h (by simp [entsK])⟩, Below.refl _ _⟩
  case round =>
    obtain ⟨j, c', A', hj, hj20, rfl, rfl, hrd, hbel⟩ := hrel
    have hel := (entsK_ok ss j (by rw [hn'.out]; exact hj)).1
    by_cases hlt : j < n ∧ j < 20
    · obtain ⟨hlt, hl20⟩ := hlt
      obtain ⟨b, off, rfl, hbl, hcell⟩ := hr.2 (by omega)
      have hjl : j < ss.length := by rw [hn'.out]; exact hlt
      have hc0 : wr.cell? ⟨b, off + j, none⟩ = some (.string ss[j]) := by
        rw [hbel.cell (p := ⟨b, off + j, none⟩) hbl, hcell _ (by omega)]
        simp [hjl]
      have hs9 := hsz ss[j] (List.getElem_mem hjl)
      unfold maxLen at hs9
      have hstep := Lib.hid (entsK_succ ss j hjl)
      have hcell' := Lib.hid hcell
      clear hcell
      generalize ss[j] = s at hc0 hs9 hstep
      generalize hE : entsK ss j = E at hrd hel hstep
      by_cases h32 : s.size ≤ 32
      · have hcut : cut32 s = s := by
          unfold cut32
          rw [show min s.size 32 = s.size from by omega]
          exact ByteArray.extract_zero_size
        have Hcut := Lib.hid hcut
        clear hcut
        go_wp2_with fail
        refine (put_any A' E.length c' E s ⟨#[]⟩ wr rfl hrd (by omega)).mono ?_
        rintro e w1 ⟨u, rfl, hown, hb1⟩
        obtain ⟨A2, c2, rfl, _, _⟩ := own_slice hown
        go_wp2_with fail
        refine ⟨⟨j + 1, c2, A2, by omega, by omega, by go_num, ?_, ?_, hbel.trans (hb1.mono hbel.size)⟩, by simp [intOf]; omega⟩
        · rw [hstep.out, Hcut.out]; rfl
        · rw [hstep.out, Hcut.out]; exact Rd.of_own hown
      · have hcut : cut32 s = s.extract 0 32 := by
          unfold cut32
          rw [show min s.size 32 = 32 from by omega]
        have Hcut := Lib.hid hcut
        clear hcut
        go_wp2_with fail
        refine (put_any A' E.length c' E (s.extract 0 32) ⟨#[]⟩ wr rfl hrd (by omega)).mono ?_
        rintro e w1 ⟨u, rfl, hown, hb1⟩
        obtain ⟨A2, c2, rfl, _, _⟩ := own_slice hown
        go_wp2_with fail
        refine ⟨⟨j + 1, c2, A2, by omega, by omega, by go_num, ?_, ?_, hbel.trans (hb1.mono hbel.size)⟩, by simp [intOf]; omega⟩
        · rw [hstep.out, Hcut.out]; rfl
        · rw [hstep.out, Hcut.out]; exact Rd.of_own hown
    · have hj2 : j = min n 20 := by omega
      have hko : keysOf ss 20 = (entsK ss j).map (·.1) := by unfold keysOf; rw [hn'.out, hj2]
      have Hko := Lib.hid hko
      clear hko
      generalize entsK ss j = E at hrd hel Hko
      have hE : E.length ≤ 20 := by omega
      have hjlt : ¬ j < n ∨ (j < n ∧ ¬ j < 20) := by omega
      obtain ⟨wo, hwo⟩ : ∃ wo, wo = wr := ⟨_, rfl⟩
      obtain ⟨i0, hi, hz0, hz1, hz2⟩ := info_parts Try.info9
      have hbel0 := Lib.hid hbel
      have hsz0 := hbel.size
      subst hwo
      clear hbel hr hj2 hsz hn'
      rcases hjlt with h | ⟨h, h'⟩
      all_goals
        clear hlt
        go_wp2_with fail
        go_loopw [8, 9] (fun o i wr => ∃ q : Nat, q ≤ E.length ∧ i = .int .i64 q ∧ wr.ownsRow wo.heap.size 9 1 o q ((E.take q).map fun x => .string x.1) ∧ Below wo.heap.size wo wr) (fun _ i _ => E.length - (intOf i).toNat)
        case atStart => exact ⟨0, Nat.zero_le _, rfl, World.ownsRow_nil _ _ _ _, Below.refl _ _⟩
        case round =>
          obtain ⟨q, hq, rfl, hown, hbel⟩ := hrel
          by_cases hlt : q < E.length
          · obtain ⟨b, off, rfl, hbl, hcell⟩ := hrd.2 (by omega)
            have hc0 : wr.cell? ⟨b, off + q * 2, none⟩ = some (.string E[q].1) := by
              rw [hbel.cell (p := ⟨b, off + q * 2, none⟩) hbl, hcell _ (by omega), cellsE_at0 E q hlt]
            have hstep : (E.take (q + 1)).map (fun x => Value.string x.1) = (E.take q).map (fun x => Value.string x.1) ++ [.string E[q].1] := by
              rw [List.take_succ_eq_append_getElem hlt, List.map_append]; rfl
            have Hstep := Lib.hid hstep
            have hsz1 := hbel.size
            clear hcell hstep
            generalize E[q] = x at hc0 Hstep
            obtain ⟨x, y⟩ := x
            dsimp only at hc0 Hstep
            go_wp2_with (at_builtin; refine wpList_append_own _ rfl (.tmp 39) (.tmp 45) 25 rfl wo.heap.size 9 i0 _ 1 16 Try.underlying25 hi hz0 hz1 hz2 rfl (by decide) _ _ _ rfl (hown.alloc _) ⟨wr.heap.size, 0, none⟩ 1 1 [.string x] rfl rfl (new1 _ _ _) (one1 _) (by unfold maxLen; omega) (by omega) (by simp; omega) ?_; intro o' w1 hown' hgrow _)
            have hbel1 := (hbel.alloc hsz1 (.cells #[.string x] 9)).grown hgrow (by simp; omega) fun g hg => (hown.lt g hg).1
            go_wp2_with fail
            refine ⟨⟨q + 1, by omega, by go_num, ?_, hbel1⟩, by simp [intOf]; omega⟩
            rw [Hstep.out]
            exact hown'
          · obtain rfl : q = E.length := by omega
            go_wp2_with fail
            go_ret
            have hk : (E.take E.length).map (fun x => Value.string x.1) = (keysOf ss 20).map .string := by rw [Hko.out, List.take_length, List.map_map]; rfl
            have hkl : E.length = (keysOf ss 20).length := by rw [Hko.out, List.length_map]
            rw [hk, hkl] at hown
            exact ⟨_, rfl, own_base hown hsz0, hbel0.out.trans (hbel.mono hsz0)⟩
end Go.Proofs.Ytlkpfdmkhakkiaa
