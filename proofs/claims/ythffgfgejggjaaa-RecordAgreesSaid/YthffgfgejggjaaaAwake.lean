/-
  The contracts in the form that the laws use; awake.
-/
import Derived.Test.YthffgfgejggjaaaValid
namespace Go.Proofs.Ythffgfgejggjaaa
open Go.RowKit

theorem cutRd (A : Option Addr) (n c m : Nat) (l : List Pl.Ver) (t : Int) (w : World) (hn : l.length = n) (hr : Rd w 3 A n (l.flatMap fV)) (hb : n ≤ 1000) (hnc : n ≤ c) (hm : (Pl.cut l t).length = m) :
    Calls Try.prog 10 #[.slice A n c, .int .u64 t] w fun e w' => ∃ A' c', e = .returned (.slice A' m c') ∧ Rd w' 3 A' m ((Pl.cut l t).flatMap fV) ∧ m ≤ c' ∧ Below w.heap.size w w' := by
  subst hm
  refine (cut_any A n c l t w hn hr hb hnc).mono ?_
  rintro e w' ⟨u, rfl, hown, hb⟩
  obtain ⟨A', c', rfl, h1, _⟩ := own_slice hown
  exact ⟨A', c', rfl, Rd.of_own hown, h1, hb⟩
theorem validRd (A : Option Addr) (n c : Nat) (raw L : List Pl.Ver) (p : Bool) (w : World) (hn : raw.length = n) (hr : Rd w 3 A n (raw.flatMap fV)) (hm : n ≤ maxLen) (hwf : ∀ v ∈ raw, 0 ≤ v.1) (hL : Pl.made raw p = L) :
    Calls Try.prog 9 #[.slice A n c, .bool p] w fun e w' => ∃ A' c', e = .returned (.slice A' L.length c') ∧ Rd w' 3 A' L.length (L.flatMap fV) ∧ L.length ≤ c' ∧ Below w.heap.size w w' := by
  subst hL
  refine (valid_any A n c raw p w hn hr hm hwf).mono ?_
  rintro e w' ⟨u, rfl, hown, hb⟩
  obtain ⟨A', c', rfl, h1, _⟩ := own_slice hown
  exact ⟨A', c', rfl, Rd.of_own hown, h1, hb⟩
theorem deadAt (A : Option Addr) (n c : Nat) (l : List Pl.Ver) (t : Int) (b : Bool) (w : World) (hn : l.length = n) (hr : Rd w 3 A n (l.flatMap fV)) (hb : n ≤ 1000) (h : Pl.dead l t = b) :
    Calls Try.prog 15 #[.slice A n c, .int .u64 t] w fun e w' => e = .returned (.bool b) ∧ Below w.heap.size w w' := by
  subst h; exact dead_any A n c l t w hn hr hb
theorem checkAt (A : Option Addr) (n c : Nat) (l : List Pl.Ver) (w : World) (hn : l.length = n) (hr : Rd w 3 A n (l.flatMap fV)) (hb : n ≤ 1000) (h : Pl.chk1 l) :
    Calls Try.prog 12 #[.slice A n c] w fun e w' => e = .returned (.bool true) ∧ Below w.heap.size w w' := by
  have := check_any A n c l w hn hr hb
  rwa [decide_eq_true h] at this
theorem sameAt (A B : Option Addr) (n c m d : Nat) (l r : List Pl.Ver) (w : World) (hn : l.length = n) (hm : r.length = m) (hr : Rd w 3 A n (l.flatMap fV)) (hs : Rd w 3 B m (r.flatMap fV)) (hb : n ≤ 1000) (hb' : m ≤ 1000) (h : l = r) :
    Calls Try.prog 13 #[.slice A n c, .slice B m d] w fun e w' => e = .returned (.bool true) ∧ Below w.heap.size w w' := by
  have := same_any A B n c m d l r w hn hm hr hs hb hb'
  rwa [decide_eq_true h] at this
theorem valueAt (A : Option Addr) (n c : Nat) (l : List Pl.Ver) (t : Int) (b : Bool) (w : World) (hn : l.length = n) (hr : Rd w 3 A n (l.flatMap fV)) (hb : n ≤ 1000) (h : Pl.has l t = b) :
    Calls Try.prog 16 #[.slice A n c, .int .u64 t] w fun e w' => ∃ s, e = .returned (.tuple #[.string s, .bool b]) ∧ Below w.heap.size w w' := by
  subst h; exact (value_any A n c l t w hn hr hb).mono fun _ _ ⟨he, hw⟩ => ⟨_, he, hw⟩

def three : List Pl.Ver := [(7, ⟨#[120]⟩, false), (4, ⟨#[121]⟩, false), (2, ⟨#[]⟩, true)]
theorem three_rd (w : World) : Rd (w.alloc (.cells #[.int .u64 7, .string ⟨#[120]⟩, .bool false, .int .u64 4, .string ⟨#[121]⟩, .bool false, .int .u64 2, .string ⟨#[]⟩, .bool true] 27)) 3 (some ⟨w.heap.size, 0, none⟩) 3 (three.flatMap fV) := by
  refine ⟨rfl, fun _ => ⟨w.heap.size, 0, rfl, by simp, fun j _ => ?_⟩⟩
  rw [World.cell?_alloc_at _ _ _ _ rfl, Nat.zero_add]
  exact List.getElem?_toArray (xs := three.flatMap fV) (i := j)

set_option maxHeartbeats 2000000 in
theorem awake_any (w : World) : Calls Try.prog 11 #[] w fun e w' => e = .returned (.bool true) ∧ Below w.heap.size w w' := by
  have h0 := three_rd w
  have hb0 := (Below.refl w.heap.size w).alloc (Nat.le_refl _) (.cells #[.int .u64 7, .string ⟨#[120]⟩, .bool false, .int .u64 4, .string ⟨#[121]⟩, .bool false, .int .u64 2, .string ⟨#[]⟩, .bool true] 27)
  have H0 := Lib.hid h0
  have Hb0 := Lib.hid hb0
  clear h0 hb0
  go_enter Try.func11, Try.ntmps11
  go_wp2_with fail
  refine (visAt _ 3 3 three 5 _ (4, ⟨#[121]⟩, false) true rfl H0.out (by decide) (by decide +kernel) (by decide +kernel)).mono ?_
  rintro e w1 ⟨rfl, hb1⟩
  have hb2 := hb1.alloc hb1.size (.cells #[.int .u64 4, .string ⟨#[121]⟩, .bool false] 27)
  have Hr2 := Lib.hid (H0.out.below hb2)
  have Hb2 := Lib.hid (Hb0.out.trans (hb2.mono Hb0.out.size))
  clear hb1 hb2
  go_wp2_with fail
  refine (cutRd _ 3 3 2 three 5 _ rfl Hr2.out (by decide) (by decide) (by decide +kernel)).mono ?_
  rintro e w2 ⟨A2, c2, rfl, hr2, hc2, hb2⟩
  have Hr3 := Lib.hid (Hr2.out.below hb2)
  have Hb3 := Lib.hid (Hb2.out.trans (hb2.mono Hb2.out.size))
  clear hr2 hc2 hb2
  go_wp2_with fail
  refine (cutRd _ 3 3 3 three 1 _ rfl Hr3.out (by decide) (by decide) (by decide +kernel)).mono ?_
  rintro e w3 ⟨A3, c3, rfl, hr3, hc3, hb3⟩
  have Hr4 := Lib.hid (Hr3.out.below hb3)
  have Hb4 := Lib.hid (Hb3.out.trans (hb3.mono Hb3.out.size))
  clear hr3 hc3 hb3
  go_wp2_with fail
  refine (checkAt _ 3 3 three _ rfl Hr4.out (by decide) (by decide +kernel)).mono ?_
  rintro e w4 ⟨rfl, hb4⟩
  have Hb5 := Lib.hid (Hb4.out.trans (hb4.mono Hb4.out.size))
  clear hb4
  go_wp2_with fail
  go_ret
  exact ⟨rfl, Hb5.out⟩
end Go.Proofs.Ythffgfgejggjaaa
