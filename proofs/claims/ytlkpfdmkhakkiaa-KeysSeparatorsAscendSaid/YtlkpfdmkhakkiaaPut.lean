/-
  Put: the contract. (The walk.)
-/
import Derived.Test.YtlkpfdmkhakkiaaMem
import Derived.BigQuiet
namespace Go.Proofs.Ytlkpfdmkhakkiaa
open Go.RowKit
attribute [local go_sem] Pl.bl_eq Pl.le_dec Pl.gt_dec tl bs_ex0

theorem Try.info36 : (Try.prog.info? 36).map (fun i => (i.zero, i.size, i.bytes)) = some (some (.agg #[.string ⟨#[]⟩, .string ⟨#[]⟩]), 2, 32) := by kernel_rfl

theorem new2 (w : World) (x y : Value) (t : TypeId) : ∀ j u, ([x, y] : List Value)[j]? = some u → (w.alloc (.cells #[x, y] t)).cell? ((⟨w.heap.size, 0, none⟩ : Addr).add j) = some u := by
  intro j u hj
  rw [add_zero, World.cell?_alloc_at _ _ _ _ rfl]
  match j, hj with
  | 0, hj => simpa using hj
  | 1, hj => simpa using hj
theorem one2 (a b : ByteArray) : ∀ u ∈ ([.string a, .string b] : List Value), u.oneCell' = true := by
  intro u hu
  simp at hu
  rcases hu with rfl | rfl <;> rfl

theorem rel_app {B : Nat} {W0 wr W w1 : World} {u u' : Value} {out : List (ByteArray × ByteArray)} {x : ByteArray × ByteArray} (hB : B ≤ W.heap.size) (hbel : Below B W0 W) (hown : wr.ownsRow B 36 2 u out.length (cellsE out))
    (hown' : w1.ownsRow B 36 2 u' (out.length + 1) (cellsE out ++ [.string x.1, .string x.2])) (hg : W.grownBy w1 u.ownBlock) :
    w1.ownsRow B 36 2 u' (out ++ [x]).length (cellsE (out ++ [x])) ∧ Below B W0 w1 :=
  ⟨by rw [cellsE_snoc, List.length_append]; exact hown', hbel.grown hg hB fun g hgg => (hown.lt g hgg).1⟩

theorem below_of {w w1 : World} {o : Obj} (h : Below (w.heap.size + 1) (w.alloc o) w1) : Below w.heap.size w w1 :=
  ((Below.refl _ _).alloc (Nat.le_refl _) o).trans (h.mono (Nat.le_succ _))

set_option maxHeartbeats 4000000 in
theorem put_any (A : Option Addr) (n c : Nat) (l : List (ByteArray × ByteArray)) (k v : ByteArray) (w : World) (hn : l.length = n) (hr : Rd w 2 A n (cellsE l)) (hb : n ≤ 1000) :
    Calls Try.prog 20 #[.slice A n c, .agg #[.string k, .string v]] w fun e w' => ∃ u, e = .returned u ∧ w'.ownsRow w.heap.size 36 2 u (put l (k, v)).length (cellsE (put l (k, v))) ∧ Below w.heap.size w w' := by
  obtain ⟨i0, hi, hz0, hz1, hz2⟩ := info_parts Try.info36
  have hn' := Lib.hid hn
  go_enter Try.func20, Try.ntmps20
  clear hn
  go_wp2
  go_loopw [5, 6, 7] (fun o d i wr => ∃ j : Nat, j ≤ n ∧ i = .int .i64 j ∧ d = .bool (putK (k, v) l j).2 ∧ wr.ownsRow (w.heap.size + 1) 36 2 o (putK (k, v) l j).1.length (cellsE (putK (k, v) l j).1) ∧
      Below (w.heap.size + 1) (w.alloc (.cells #[.string k, .string v] 36)) wr) (fun _ _ i _ => n - (intOf i).toNat)
  case atStart => exact ⟨0, Nat.zero_le _, rfl, rfl, World.ownsRow_nil _ _ _ _, Below.refl _ _⟩
  case round =>
    obtain ⟨j, hj, rfl, rfl, hown, hbel⟩ := hrel
    by_cases hlt : j < n
    · obtain ⟨b, off, rfl, hbl, hcell⟩ := hr.2 (by omega)
      have hjl : j < l.length := by rw [hn'.out]; exact hlt
      have hstep := putK_succ (k, v) l j hjl
      have hall : ∀ W, Below (w.heap.size + 1) (w.alloc (.cells #[.string k, .string v] 36)) W → W.cell? ⟨b, off + j * 2, none⟩ = some (.string l[j].1) ∧ W.cell? ⟨b, off + j * 2 + 1, none⟩ = some (.string l[j].2) ∧
          W.cell? ⟨w.heap.size, 0, none⟩ = some (.string k) ∧ W.cell? ⟨w.heap.size, 1, none⟩ = some (.string v) := by
        intro W hW
        refine ⟨?_, ?_, ?_, ?_⟩
        · rw [hW.cell (p := ⟨b, off + j * 2, none⟩) (by simp; omega), World.cell?_alloc_past _ _ _ hbl, hcell _ (by omega), cellsE_at0 l j hjl]
        · rw [hW.cell (p := ⟨b, off + j * 2 + 1, none⟩) (by simp; omega), World.cell?_alloc_past _ _ _ hbl, Nat.add_assoc, hcell _ (by omega), cellsE_at1 l j hjl]
        · rw [hW.cell (p := ⟨w.heap.size, 0, none⟩) (by simp), World.cell?_alloc_at _ _ _ _ rfl]; rfl
        · rw [hW.cell (p := ⟨w.heap.size, 1, none⟩) (by simp), World.cell?_alloc_at _ _ _ _ rfl]; rfl
      generalize l[j] = x at hall hstep
      obtain ⟨xk, xv⟩ := x
      have hlo := putK_le (k, v) l j
      have hsz : w.heap.size + 1 ≤ wr.heap.size := by simpa using hbel.size
      generalize putK (k, v) l j = st at hown hstep hlo
      obtain ⟨out, done⟩ := st
      dsimp only at hown
      obtain ⟨hc0, hc1, hk0, hk1⟩ := hall wr hbel
      have Hall := Lib.hid hall
      clear hcell hall
      have hlo' : out.length ≤ 1001 := by simp at hlo; omega
      clear hlo
      cases done
      · by_cases hge : bs xk < bs k
        · have hne : (bs xk == bs k) = false := Pl.lt_ne hge
          have hfin : putK (k, v) l (j + 1) = (out ++ [(xk, xv)], false) := by
            rw [hstep]; unfold putStep; simp [hge]; intro e; exact absurd (e ▸ hge) (Pl.lt_irr _)
          have hfin := Lib.hid hfin
          clear hstep
          go_wp2_with fail
          go_quiet (fail)
          go_wp2_with fail
          go_quiet (fail)
          go_wp2_with (at_builtin; refine wpList_append_own _ rfl (.tmp 38) (.tmp 43) 33 rfl (w.heap.size + 1) 36 i0 _ 2 32 Try.underlying33 hi hz0 hz1 hz2 rfl (by decide) _ _ _ rfl ((own_drewN hown _).alloc _) ⟨wr.heap.size, 0, none⟩ 1 1 [.string xk, .string xv] rfl rfl (new2 _ _ _ _) (one2 _ _) (by unfold maxLen; omega) (by omega) (by simp; omega) ?_; intro o' w1 hown' hgrow _)
          have R := rel_app (x := (xk, xv)) (by simp; omega) ((bel_drewN hbel _).alloc (by simp; omega) _) hown hown' hgrow
          clear hown' hgrow
          go_wp2_with fail
          refine ⟨⟨j + 1, by omega, by go_num, ?_⟩, by simp [intOf]; omega⟩
          rw [hfin.out]
          exact ⟨rfl, R.1, R.2⟩
        · by_cases he : bs xk = bs k
          · have hne : (bs xk == bs k) = true := by simpa using he
            have hfin : putK (k, v) l (j + 1) = (out ++ [(k, v)], true) := by
              rw [hstep]; unfold putStep; simp [he]
            have hfin := Lib.hid hfin
            clear hstep he
            go_wp2_with fail
            go_quiet (fail)
            go_wp2_with (at_builtin; refine wpList_append_own _ rfl (.tmp 26) (.tmp 28) 33 rfl (w.heap.size + 1) 36 i0 _ 2 32 Try.underlying33 hi hz0 hz1 hz2 rfl (by decide) _ _ _ rfl ((own_drewN hown _).alloc _) ⟨wr.heap.size, 0, none⟩ 1 1 [.string k, .string v] rfl rfl (new2 _ _ _ _) (one2 _ _) (by unfold maxLen; omega) (by omega) (by simp; omega) ?_; intro o' w1 hown' hgrow _)
            have R := rel_app (x := (k, v)) (by simp; omega) ((bel_drewN hbel _).alloc (by simp; omega) _) hown hown' hgrow
            clear hown' hgrow
            obtain ⟨gc0, gc1, gk0, gk1⟩ := Hall.out w1 R.2
            go_wp2_with fail
            go_quiet (fail)
            go_wp2_with fail
            refine ⟨⟨j + 1, by omega, by go_num, ?_⟩, by simp [intOf]; omega⟩
            rw [hfin.out]
            exact ⟨rfl, R.1, bel_drewN R.2 _⟩
          · have hne : (bs xk == bs k) = false := by simpa using he
            have hfin : putK (k, v) l (j + 1) = (out ++ [(k, v)] ++ [(xk, xv)], true) := by
              rw [hstep]; unfold putStep; simp [hge, he]
            have hfin := Lib.hid hfin
            clear hstep he
            go_wp2_with fail
            go_quiet (fail)
            go_wp2_with (at_builtin; refine wpList_append_own _ rfl (.tmp 26) (.tmp 28) 33 rfl (w.heap.size + 1) 36 i0 _ 2 32 Try.underlying33 hi hz0 hz1 hz2 rfl (by decide) _ _ _ rfl ((own_drewN hown _).alloc _) ⟨wr.heap.size, 0, none⟩ 1 1 [.string k, .string v] rfl rfl (new2 _ _ _ _) (one2 _ _) (by unfold maxLen; omega) (by omega) (by simp; omega) ?_; intro o' w1 hown' hgrow _)
            have R := rel_app (x := (k, v)) (by simp; omega) ((bel_drewN hbel _).alloc (by simp; omega) _) hown hown' hgrow
            clear hown' hgrow
            obtain ⟨gc0, gc1, gk0, gk1⟩ := Hall.out w1 R.2
            have hsz1 : w.heap.size + 1 ≤ w1.heap.size := by simpa using R.2.size
            have hown1 := R.1
            have hbel1 := R.2
            have hl1 : (out ++ [(k, v)]).length = out.length + 1 := by simp
            have hlo1 : (out ++ [(k, v)]).length ≤ 1002 := by omega
            clear R hl1
            go_wp2_with fail
            go_quiet (fail)
            go_wp2_with (at_builtin; refine wpList_append_own _ rfl (.tmp 38) (.tmp 43) 33 rfl (w.heap.size + 1) 36 i0 _ 2 32 Try.underlying33 hi hz0 hz1 hz2 rfl (by decide) _ _ _ rfl ((own_drewN hown1 _).alloc _) ⟨w1.heap.size, 0, none⟩ 1 1 [.string xk, .string xv] rfl rfl (new2 _ _ _ _) (one2 _ _) (by unfold maxLen; omega) (by omega) (by simp; omega) ?_; intro o2 w2 hown' hgrow _)
            have R := rel_app (x := (xk, xv)) (by simp; omega) ((bel_drewN hbel1 _).alloc (by simp; omega) _) hown1 hown' hgrow
            clear hown' hgrow
            go_wp2_with fail
            refine ⟨⟨j + 1, by omega, by go_num, ?_⟩, by simp [intOf]; omega⟩
            rw [hfin.out]
            exact ⟨rfl, R.1, R.2⟩
      · by_cases he : bs xk = bs k
        · have hne : (bs xk == bs k) = true := by simpa using he
          have hfin : putK (k, v) l (j + 1) = (out, true) := by
            rw [hstep]; unfold putStep; simp [he]
          have hfin := Lib.hid hfin
          clear hstep he
          go_wp2_with fail
          go_quiet (fail)
          go_wp2_with fail
          go_quiet (fail)
          go_wp2_with fail
          refine ⟨⟨j + 1, by omega, by go_num, ?_⟩, by simp [intOf]; omega⟩
          rw [hfin.out]
          exact ⟨rfl, own_drewN hown _, bel_drewN hbel _⟩
        · have hne : (bs xk == bs k) = false := by simpa using he
          have hfin : putK (k, v) l (j + 1) = (out ++ [(xk, xv)], true) := by
            rw [hstep]; unfold putStep; simp [he]
          have hfin := Lib.hid hfin
          clear hstep he
          go_wp2_with fail
          go_quiet (fail)
          go_wp2_with fail
          go_quiet (fail)
          go_wp2_with (at_builtin; refine wpList_append_own _ rfl (.tmp 38) (.tmp 43) 33 rfl (w.heap.size + 1) 36 i0 _ 2 32 Try.underlying33 hi hz0 hz1 hz2 rfl (by decide) _ _ _ rfl ((own_drewN hown _).alloc _) ⟨wr.heap.size, 0, none⟩ 1 1 [.string xk, .string xv] rfl rfl (new2 _ _ _ _) (one2 _ _) (by unfold maxLen; omega) (by omega) (by simp; omega) ?_; intro o' w1 hown' hgrow _)
          have R := rel_app (x := (xk, xv)) (by simp; omega) ((bel_drewN hbel _).alloc (by simp; omega) _) hown hown' hgrow
          clear hown' hgrow
          go_wp2_with fail
          refine ⟨⟨j + 1, by omega, by go_num, ?_⟩, by simp [intOf]; omega⟩
          rw [hfin.out]
          exact ⟨rfl, R.1, R.2⟩
    · obtain rfl : j = n := by omega
      have hall : ∀ W, Below (w.heap.size + 1) (w.alloc (.cells #[.string k, .string v] 36)) W → W.cell? ⟨w.heap.size, 0, none⟩ = some (.string k) ∧ W.cell? ⟨w.heap.size, 1, none⟩ = some (.string v) := by
        intro W hW
        refine ⟨?_, ?_⟩
        · rw [hW.cell (p := ⟨w.heap.size, 0, none⟩) (by simp), World.cell?_alloc_at _ _ _ _ rfl]; rfl
        · rw [hW.cell (p := ⟨w.heap.size, 1, none⟩) (by simp), World.cell?_alloc_at _ _ _ _ rfl]; rfl
      obtain ⟨hk0, hk1⟩ := hall wr hbel
      clear hall
      have hlo := putK_le (k, v) l j
      have hsz : w.heap.size + 1 ≤ wr.heap.size := by simpa using hbel.size
      have hput : put l (k, v) = if (putK (k, v) l j).2 then (putK (k, v) l j).1 else (putK (k, v) l j).1 ++ [(k, v)] := by unfold put; rw [hn'.out]
      generalize putK (k, v) l j = st at hown hput hlo
      obtain ⟨out, done⟩ := st
      dsimp only at hown
      have hlo' : out.length ≤ 1001 := by simp at hlo; omega
      clear hlo
      have Hput := Lib.hid hput
      clear hput
      cases done
      · go_wp2_with (at_builtin; refine wpList_append_own _ rfl (.tmp 47) (.tmp 49) 33 rfl (w.heap.size + 1) 36 i0 _ 2 32 Try.underlying33 hi hz0 hz1 hz2 rfl (by decide) _ _ _ rfl (hown.alloc _) ⟨wr.heap.size, 0, none⟩ 1 1 [.string k, .string v] rfl rfl (new2 _ _ _ _) (one2 _ _) (by unfold maxLen; omega) (by omega) (by simp; omega) ?_; intro o' w1 hown' hgrow _)
        have R := rel_app (x := (k, v)) (by simp; omega) (hbel.alloc (by omega) _) hown hown' hgrow
        clear hown' hgrow
        go_wp2_with fail
        go_ret
        refine ⟨_, rfl, ?_, below_of R.2⟩
        rw [Hput.out]
        exact own_base R.1 (by omega)
      · go_wp2_with fail
        go_ret
        refine ⟨_, rfl, ?_, below_of hbel⟩
        rw [Hput.out]
        exact own_base hown (by omega)
end Go.Proofs.Ytlkpfdmkhakkiaa
