/-
  The contracts of slices.Index and slices.Contains over strings.
-/
import Derived.Test.YtabmokekibgjeaaFind
namespace Go.Proofs.Ytabmokekibgjeaa
open Go.RowKit
attribute [local go_sem] Pl.bl_eq Pl.le_dec Pl.gt_dec tl bs_ex0

theorem str_at {w wr : World} {n b off : Nat} {l : List ByteArray} (hn : l.length = n) (hbl : b < w.heap.size) (hcell : ∀ j, j < n * 1 → w.cell? ⟨b, off + j, none⟩ = (l.map .string)[j]?) (hbel : Below w.heap.size w wr) (k : Nat) (hk : k < l.length) :
    wr.cell? ⟨b, off + k, none⟩ = some (.string l[k]) := by
  rw [hbel.cell (p := ⟨b, off + k, none⟩) hbl, hcell k (by omega), List.getElem?_map, List.getElem?_eq_getElem hk]
  rfl
/-- Whether a string is in a list. -/
def Pl.isin (l : List ByteArray) (s : ByteArray) : Bool := l.any (fun x => bs x == bs s)

set_option maxHeartbeats 1000000 in
theorem indexAt (A : Option Addr) (n c : Nat) (l : List ByteArray) (s : ByteArray) (w : World) (hn : l.length = n) (hr : Rd w 1 A n (l.map .string)) (hb : n ≤ 1000) :
    Calls Try.prog 37 #[.slice A n c, .string s] w fun e w' => (∃ i : Int, e = .returned (.int .i64 i) ∧ (0 ≤ i ↔ Pl.isin l s = true)) ∧ w = w' := by
  have hn' := Lib.hid hn
  go_enter Try.func37, Try.ntmps37
  clear hn
  go_wp2_with fail
  go_loop [8] (fun i => ∃ k : Nat, k ≤ n ∧ i = .int .i64 k ∧ Hid (∀ i (h : i < l.length), i < k → (bs l[i] == bs s) = false)) (fun i => n - (intOf i).toNat)
  case atStart => exact ⟨0, Nat.zero_le _, rfl, fun i _ h => absurd h (by omega)⟩
  case round =>
    obtain ⟨k, hk, rfl, hall⟩ := hrel
    by_cases hlt : k < n
    · obtain ⟨b, off, rfl, hbl, hcell⟩ := hr.2 (by omega)
      have hkl : k < l.length := by rw [hn'.out]; exact hlt
      have hc := str_at hn'.out hbl hcell (Below.refl _ _) k hkl
      have Hin := Lib.hid fun (h : (bs l[k] == bs s) = true) => (List.any_eq_true.2 ⟨l[k], List.getElem_mem _, h⟩ : Pl.isin l s = true)
      have hnext : (bs l[k] == bs s) = false → Hid (∀ i (h : i < l.length), i < k + 1 → (bs l[i] == bs s) = false) := fun h i hil hik => by
        by_cases e : i = k
        · subst e; exact h
        · exact hall.out i hil (by omega)
      have Hnext := Lib.hid hnext
      clear hnext hcell
      generalize l[k] = x at hc Hin Hnext
      cases he : (bs x == bs s)
      · have he2 : (bs s == bs x) = false := by rw [BEq.comm]; exact he
        have Hf := Hnext.out he
        clear Hnext Hin
        go_wp2_with fail
        exact ⟨⟨k + 1, by omega, by go_num, Hf⟩, by simp [intOf]; omega⟩
      · have he2 : (bs s == bs x) = true := by rw [BEq.comm]; exact he
        have Hf := Lib.hid (Hin.out he)
        clear Hnext Hin
        go_wp2_with fail
        go_ret
        exact ⟨⟨k, rfl, ⟨fun _ => Hf.out, fun _ => by omega⟩⟩, rfl⟩
    · have hno : Hid (Pl.isin l s = false) := by
        unfold Hid Pl.isin
        rw [List.any_eq_false]
        intro x hx
        obtain ⟨i, hi, rfl⟩ := List.mem_iff_getElem.1 hx
        rw [hall.out i hi (by rw [hn'.out] at hi; omega)]
        simp
      clear hall
      go_wp2_with fail
      go_ret
      exact ⟨⟨-1, rfl, ⟨fun h => absurd h (by omega), fun h => by rw [hno.out] at h; exact absurd h (by simp)⟩⟩, rfl⟩

theorem containsAt (A : Option Addr) (n c : Nat) (l : List ByteArray) (s : ByteArray) (r : Bool) (w : World) (hn : l.length = n) (hr : Rd w 1 A n (l.map .string)) (hb : n ≤ 1000) (h : Pl.isin l s = r) :
    Calls Try.prog 33 #[.slice A n c, .string s] w fun e w' => e = .returned (.bool r) ∧ w = w' := by
  have HI := Lib.hid (indexAt A n c l s w hn hr hb)
  have H := Lib.hid h
  clear hn hr hb h
  go_enter Try.func33, Try.ntmps33
  go_wp2_with fail
  refine HI.out.mono ?_
  rintro e w1 ⟨⟨i, rfl, hi⟩, rfl⟩
  rw [H.out] at hi
  by_cases h0 : 0 ≤ i
  · obtain rfl := hi.1 h0
    have h1 : ¬ i < 0 := by omega
    clear hi
    go_wp2_with fail
    go_ret
    exact ⟨by simp, rfl⟩
  · have hr : r = false := by
      cases r
      · rfl
      · exact absurd (hi.2 rfl) h0
    subst hr
    have h1 : i < 0 := by omega
    clear hi
    go_wp2_with fail
    go_ret
    exact ⟨by simp [h1], rfl⟩
end Go.Proofs.Ytabmokekibgjeaa
