/-
  The contracts of slices.Grow at nil and slices.Concat at three parts.
-/
import Derived.Test.YtabmokekibgjeaaSplit
import Derived.Lib.AppendZerosOnto
import Derived.Lib.SliceRun
import Derived.Lib.Walk
namespace Go.Proofs.Ytabmokekibgjeaa
open Go.RowKit
attribute [local go_sem] Pl.bl_eq Pl.le_dec Pl.gt_dec tl bs_ex0

theorem zeroCells_size (z : Array Value) (n : Nat) : (Builtin.zeroCells z n).size = n * z.size := by simp [Builtin.zeroCells]

set_option maxHeartbeats 2000000 in
theorem growNil (n : Nat) (w : World) (h0 : 0 < n) (hb : n ≤ 1000) :
    Calls Try.prog 38 #[.slice none 0 0, .int .i64 n] w fun e w' => ∃ A c, e = .returned (.slice A 0 c) ∧ w'.ownsRow w.heap.size 32 2 (.slice A 0 c) 0 [] ∧ Below w.heap.size w w' := by
  obtain ⟨i0, hi0, hz0, hz1, hz2⟩ := info_parts Try.info32
  have hrz : ∀ ty, (Builtin.append_ #[22, 3] ty #[.slice none 0 0, .int .i64 (n : Int)]).run Try.prog w =
      .ok (.slice (some ⟨w.heap.size, 0, none⟩) n (grownCap w n 0 32)) (w.drew.alloc (.cells (Builtin.zeroCells #[.string ⟨#[]⟩, .int .u64 0] n ++ Builtin.zeroCells #[.string ⟨#[]⟩, .int .u64 0] (grownCap w n 0 32 - n)) 32)) := fun ty => by
    have h := Lib.run_append_grow_zeros w 22 3 ty 32 i0 _ .i64 .i64 Try.underlying22 Try.underlying3 hi0 hz0 none 0 0 [] (run_firstCells_none w.drew i0.size 0 0 0) n h0 (by omega) (by omega) (by omega) (by rw [hz2]; omega)
      (by rw [hz2]; exact growslice_fits (by omega) (by omega))
    simpa [Value.cells] using h
  have hGn : n ≤ grownCap w n 0 32 := grownCap_ge w _ _ _
  have hG63 : grownCap w n 0 32 ≤ maxLen := grownCap_le_maxLen w n 0 32 (by unfold maxLen; omega)
  generalize grownCap w n 0 32 = G at hrz hGn hG63
  have hfin : (w.drew.alloc (.cells (Builtin.zeroCells #[.string ⟨#[]⟩, .int .u64 0] n ++ Builtin.zeroCells #[.string ⟨#[]⟩, .int .u64 0] (G - n)) 32)).ownsRow w.heap.size 32 2 (.slice (some ⟨w.heap.size, 0, none⟩) 0 G) 0 [] := by
    refine ⟨rfl, .inr ⟨w.heap.size, G, _, rfl, Nat.le_refl _, heap_alloc_new _ _, Nat.zero_le _, hG63, ?_, by simp⟩⟩
    rw [Array.size_append, zeroCells_size, zeroCells_size]
    simp
    omega
  have hbel : Below w.heap.size w (w.drew.alloc (.cells (Builtin.zeroCells #[.string ⟨#[]⟩, .int .u64 0] n ++ Builtin.zeroCells #[.string ⟨#[]⟩, .int .u64 0] (G - n)) 32)) :=
    ((Below.refl w.heap.size w).drew).alloc (Nat.le_refl _) _
  generalize Builtin.zeroCells #[.string ⟨#[]⟩, .int .u64 0] n ++ Builtin.zeroCells #[.string ⟨#[]⟩, .int .u64 0] (G - n) = Z at *
  have Hfin := Lib.hid hfin
  have Hbel := Lib.hid hbel
  clear hfin hbel
  unfold maxLen at hG63
  go_enter Try.func38, Try.ntmps38
  go_wp2_with (at_builtin; refine Lib.wpList_append_run _ rfl _ _ _ _ rfl _ _ rfl rfl _ _ (hrz _) ?_)
  go_ret
  exact ⟨_, _, rfl, Hfin.out, Hbel.out⟩

/-- 'append(s, x...)', s the call's own, x a slice that reads as news (nil or not). -/
theorem run_append_own_nil {P : Program} {w : World} (base : Nat) (t ty e : TypeId) (i : TypeInfo) (size : Nat) (ht : P.underlying t = some (.slice e)) (hi : P.info? e = some i)
    (v : Value) (n c : Nat) (xs : List Value) (hown : w.ownsRow base e size v n xs) : (Builtin.append_ #[t, t] ty #[v, .slice none 0 c]).run P w = .ok v w := by
  rcases hown.2 with ⟨rfl, rfl⟩ | ⟨g, cap, cur, rfl, _, _, hnc, _⟩
  · simp [Builtin.append_, run_underlying ht, sizeOf, typeInfo, hi, Builtin.lenOf, Builtin.firstCells]
  · simp [Builtin.append_, run_underlying ht, sizeOf, typeInfo, hi, Builtin.lenOf, Builtin.firstCells, hnc, storeCells]
theorem wpList_append_rd {P : Program} {w : World} {ops : Array Oper} {rest : List Oper} {o : Oper} {a : Act} {Q : Exit → Act → World → Prop} (hgd : o.guard = none) (s x : Operand) (t : TypeId)
    (ho : o.op = .call { callee := .builtin .append, args := #[s, x], argTypes := #[t, t] })
    (base : Nat) (e : TypeId) (i : TypeInfo) (z : Value) (size bytes : Nat) (ht : P.underlying t = some (.slice e)) (hi : P.info? e = some i) (hz : i.zero = some z)
    (hsize : i.size = size) (hby : i.bytes = bytes) (hzs : z.cells.size = size) (hsz : 0 < size)
    (v : Value) (n : Nat) (xs : List Value) (hs : a.eval s = v) (hown : w.ownsRow base e size v n xs)
    (A : Option Addr) (m c : Nat) (news : List Value) (hx : a.eval x = .slice A m c) (hr : Rd w size A m news) (h1 : ∀ u ∈ news, u.oneCell' = true)
    (h63 : n + m ≤ maxLen) (hbytes : (n + m) * bytes ≤ 140737488355328) (hbase : base ≤ w.heap.size)
    (h : ∀ v' w', w'.ownsRow base e size v' (n + m) (xs ++ news) → Below base w w' → wpList P ops Q rest (a.put o.dst v') w') : wpList P ops Q (o :: rest) a w := by
  cases A with
  | none =>
    have hm : m = 0 := by
      rcases Nat.eq_zero_or_pos m with h0 | h0
      · exact h0
      · obtain ⟨b, off, e, _⟩ := hr.2 h0
        cases e
    subst hm
    have hn : news = [] := List.eq_nil_of_length_eq_zero (by simpa using hr.1)
    subst hn
    refine wpList_plain hgd fun K hK => ?_
    have hrun := run_append_own_nil (P := P) (w := w) base t o.type e i size ht hi v n c xs hown
    unfold Oper.wp
    simp [execOp, ho, resolve, invoke, builtin, hs, hx, hrun, Result.andThen]
    exact hK _ _ (h v w (by simpa using hown) (Below.refl _ _))
  | some ad =>
    refine wpList_append_own w hgd s x t ho base e i z size bytes ht hi hz hsize hby hzs hsz v n xs hs hown ad m c news hx hr.1 hr.news h1 h63 hbytes hbase ?_
    intro v' w' hown' hg _
    exact h v' w' hown' ((Below.refl _ _).grown hg hbase fun k hk => (hown.lt k hk).1)

/-- The lengths of the first parts; the first parts. -/
def tot (n1 n2 n3 : Nat) : Nat → Nat
  | 0 => 0
  | 1 => n1
  | 2 => n1 + n2
  | _ => n1 + n2 + n3
def pre (l1 l2 l3 : List Pl.Slot) : Nat → List Pl.Slot
  | 0 => []
  | 1 => l1
  | 2 => l1 ++ l2
  | _ => l1 ++ l2 ++ l3
theorem one_flat {l : List Pl.Slot} : ∀ u ∈ l.flatMap fS, u.oneCell' = true := by
  intro u hu
  obtain ⟨x, -, hx⟩ := List.mem_flatMap.1 hu
  exact one_fS x u hx

set_option maxHeartbeats 4000000 in
theorem concatAt (h : Nat) (A1 A2 A3 : Option Addr) (n1 n2 n3 c1 c2 c3 : Nat) (l1 l2 l3 : List Pl.Slot) (w : World) (hB : Blk w h 22 #[.slice A1 n1 c1, .slice A2 n2 c2, .slice A3 n3 c3])
    (hr1 : Rd w 2 A1 n1 (l1.flatMap fS)) (hr2 : Rd w 2 A2 n2 (l2.flatMap fS)) (hr3 : Rd w 2 A3 n3 (l3.flatMap fS)) (h0 : 0 < n2) (hb : n1 + n2 + n3 ≤ 900) :
    Calls Try.prog 34 #[.slice (some ⟨h, 0, none⟩) 3 3] w fun e w' => ∃ A c, e = .returned (.slice A (n1 + n2 + n3) c) ∧ w'.ownsRow w.heap.size 32 2 (.slice A (n1 + n2 + n3) c) (n1 + n2 + n3) ((l1 ++ l2 ++ l3).flatMap fS) ∧ Below w.heap.size w w' := by
  obtain ⟨i0, hi0, hz0, hz1, hz2⟩ := info_parts Try.info32
  have p0 := hB.cell 0
  have p1 := hB.cell 1
  have p2 := hB.cell 2
  have HB := Lib.hid hB
  have HR1 := Lib.hid hr1
  have HR2 := Lib.hid hr2
  have HR3 := Lib.hid hr3
  clear hB hr1 hr2 hr3
  go_enter Try.func34, Try.ntmps34
  go_wp2_with fail
  go_loop [3, 11] (fun s i => ∃ k : Nat, k ≤ 3 ∧ i = .int .i64 k ∧ s = .int .i64 (tot n1 n2 n3 k)) (fun _ i => 3 - (intOf i).toNat)
  case atStart => exact ⟨0, by omega, rfl, rfl⟩
  case round =>
    obtain ⟨k, hk, rfl, rfl⟩ := hrel
    have hk' : k = 0 ∨ k = 1 ∨ k = 2 ∨ k = 3 := by omega
    rcases hk' with rfl | rfl | rfl | rfl
    · simp only [tot]
      go_wp2_with fail
      exact ⟨⟨1, by omega, rfl, rfl⟩, by simp [intOf]⟩
    · simp only [tot]
      go_wp2_with fail
      exact ⟨⟨2, by omega, rfl, rfl⟩, by simp [intOf]⟩
    · simp only [tot]
      go_wp2_with fail
      exact ⟨⟨3, by omega, rfl, rfl⟩, by simp [intOf]⟩
    · simp only [tot]
      have hg := growNil (n1 + n2 + n3) w (by omega) (by omega)
      rw [show ((n1 + n2 + n3 : Nat) : Int) = (n1 : Int) + (n2 : Int) + (n3 : Int) by omega] at hg
      have HG := Lib.hid hg
      clear hg
      go_wp2_with fail
      refine HG.out.mono ?_
      rintro e w1 ⟨A0, c0, rfl, hown1, hb1⟩
      have Hb1 := Lib.hid hb1
      have Hown1 := Lib.hid hown1
      clear hb1 hown1 HG
      go_wp2_with fail
      go_loopw [6, 27] (fun v i wr => ∃ k : Nat, k ≤ 3 ∧ i = .int .i64 k ∧ wr.ownsRow w.heap.size 32 2 v (tot n1 n2 n3 k) ((pre l1 l2 l3 k).flatMap fS) ∧ Below w.heap.size w wr) (fun _ i _ => 3 - (intOf i).toNat)
      case atStart => exact ⟨0, by omega, rfl, Hown1.out, Hb1.out⟩
      case round =>
        obtain ⟨k, hk, rfl, hown, hbel⟩ := hrel
        have BB := HB.out.below hbel HB.out.lt
        have q0 := BB.cell 0
        have q1 := BB.cell 1
        have q2 := BB.cell 2
        clear BB
        have hk' : k = 0 ∨ k = 1 ∨ k = 2 ∨ k = 3 := by omega
        rcases hk' with rfl | rfl | rfl | rfl
        · simp only [tot, pre] at hown
          have Hown := Lib.hid hown
          have Hb := Lib.hid hbel
          have Hr := Lib.hid (HR1.out.below hbel)
          clear hown hbel
          go_wp2_with (at_builtin; refine wpList_append_rd rfl (.tmp 31) (.tmp 32) 22 rfl w.heap.size 32 i0 _ 2 24 Try.underlying22 hi0 hz0 hz1 hz2 rfl (by decide) _ _ _ rfl Hown.out A1 n1 c1 (l1.flatMap fS) rfl Hr.out one_flat (by unfold maxLen; omega) (by omega) Hb.out.size ?_; intro v' w2 hown' hb2)
          refine ⟨⟨1, by omega, rfl, ?_, Hb.out.trans (hb2.mono (Nat.le_refl _))⟩, by simp [intOf]⟩
          simpa [tot, pre] using hown'
        · simp only [tot, pre] at hown
          have Hown := Lib.hid hown
          have Hb := Lib.hid hbel
          have Hr := Lib.hid (HR2.out.below hbel)
          clear hown hbel
          go_wp2_with (at_builtin; refine wpList_append_rd rfl (.tmp 31) (.tmp 32) 22 rfl w.heap.size 32 i0 _ 2 24 Try.underlying22 hi0 hz0 hz1 hz2 rfl (by decide) _ _ _ rfl Hown.out A2 n2 c2 (l2.flatMap fS) rfl Hr.out one_flat (by unfold maxLen; omega) (by omega) Hb.out.size ?_; intro v' w2 hown' hb2)
          refine ⟨⟨2, by omega, rfl, ?_, Hb.out.trans (hb2.mono (Nat.le_refl _))⟩, by simp [intOf]⟩
          simpa [tot, pre] using hown'
        · simp only [tot, pre] at hown
          have Hown := Lib.hid hown
          have Hb := Lib.hid hbel
          have Hr := Lib.hid (HR3.out.below hbel)
          clear hown hbel
          go_wp2_with (at_builtin; refine wpList_append_rd rfl (.tmp 31) (.tmp 32) 22 rfl w.heap.size 32 i0 _ 2 24 Try.underlying22 hi0 hz0 hz1 hz2 rfl (by decide) _ _ _ rfl Hown.out A3 n3 c3 (l3.flatMap fS) rfl Hr.out one_flat (by unfold maxLen; omega) (by omega) Hb.out.size ?_; intro v' w2 hown' hb2)
          refine ⟨⟨3, by omega, rfl, ?_, Hb.out.trans (hb2.mono (Nat.le_refl _))⟩, by simp [intOf]⟩
          simpa [tot, pre] using hown'
        · simp only [tot, pre] at hown
          obtain ⟨A', c', rfl, hc1, hc2⟩ := own_slice hown
          have Hown := Lib.hid hown
          have Hb := Lib.hid hbel
          clear hown hbel
          go_wp2_with fail
          go_ret
          exact ⟨A', c', rfl, Hown.out, Hb.out⟩
end Go.Proofs.Ytabmokekibgjeaa
