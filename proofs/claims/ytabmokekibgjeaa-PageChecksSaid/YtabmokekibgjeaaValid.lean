/-
  The contract of the law's valid.
-/
import Derived.Test.YtabmokekibgjeaaSearches
import Derived.Test.YtabmokekibgjeaaInserts
import Derived.Deep.DeepCutAuto
import Derived.Laws.OwnMore
namespace Go.Proofs.Ytabmokekibgjeaa
open Go.RowKit
attribute [local go_sem] Pl.bl_eq Pl.le_dec Pl.gt_dec tl bs_ex0

theorem flat_set (l : List Pl.Slot) (k : Nat) (h : k < l.length) (u : Int) : (l.flatMap fS).set (k * 2 + 1) (.int .u64 u) = (l.set k (l[k].1, u)).flatMap fS := by
  induction l generalizing k with
  | nil => exact absurd h (by simp)
  | cons x l ih =>
    obtain ⟨s, v⟩ := x
    cases k with
    | zero => rfl
    | succ k =>
      have := ih k (by simpa using h)
      rw [show (k + 1) * 2 + 1 = (k * 2 + 1) + 1 + 1 by omega]
      show Value.string s :: Value.int .u64 v :: (l.flatMap fS).set (k * 2 + 1) (.int .u64 u) = _
      rw [this]
      rfl
namespace Pl
def vf (x : Slot) : Slot := (x.1, x.2 % 1000 + 1)
def vk (k : Nat) (L : List Slot) : List Slot := (L.take k).map vf ++ L.drop k
theorem vk_len (k : Nat) (L : List Slot) : (vk k L).length = L.length := by
  simp [vk]; omega
theorem vk_split (k : Nat) (L : List Slot) (h : k < L.length) : vk k L = (L.take k).map vf ++ L[k] :: L.drop (k + 1) := by
  unfold vk; rw [List.drop_eq_getElem_cons h]
theorem vk_at (k : Nat) (L : List Slot) (h : k < L.length) : (vk k L)[k]'(by rw [vk_len]; exact h) = L[k] := by
  have : (vk k L)[k]? = some L[k] := by
    rw [vk_split k L h, List.getElem?_append_right (by simp; omega)]
    simp [Nat.min_eq_left (Nat.le_of_lt h)]
  rw [List.getElem?_eq_getElem (by rw [vk_len]; exact h)] at this
  exact Option.some.inj this
theorem vk_set (k : Nat) (L : List Slot) (h : k < L.length) : ((vk k L).flatMap fS).set (k * 2 + 1) (.int .u64 (L[k].2 % 1000 + 1)) = (vk (k + 1) L).flatMap fS := by
  rw [flat_set _ k (by rw [vk_len]; exact h), vk_at k L h]
  congr 1
  have e : k - ((L.take k).map vf).length = 0 := by rw [List.length_map, List.length_take]; omega
  rw [vk_split k L h, List.set_append_right _ _ (by rw [List.length_map, List.length_take]; omega), e, List.set_cons_zero]
  unfold vk
  rw [List.take_succ_eq_append_getElem h, List.map_append, List.append_assoc]
  rfl
theorem vk_end (L : List Slot) : vk L.length L = L.map vf := by simp [vk]
def v1 (l : List Slot) : Prop := 0 < l.length ∧ l.length ≤ 40 ∧ Asc l ∧ (∀ x ∈ l, 1 ≤ x.2) ∧ ∀ x ∈ l, x.1.size ≤ 140737488351232
theorem v1_one : v1 [(⟨#[]⟩, 1)] := by
  refine ⟨by decide, by decide, by simp [Asc], fun x hx => ?_, fun x hx => ?_⟩
  · rw [List.mem_singleton.1 hx]; decide
  · rw [List.mem_singleton.1 hx]; show 0 ≤ _; omega
theorem v1_map {L : List Slot} (h : Asc L) (hl : L.length ≤ 40) (hr : ∀ x ∈ L, 0 ≤ x.2) (hs : ∀ x ∈ L, x.1.size ≤ 140737488351232) : 0 < L.length → v1 (L.map vf) := fun h0 => by
  refine ⟨by rw [List.length_map]; exact h0, by rw [List.length_map]; exact hl, ?_, fun x hx => ?_, fun x hx => ?_⟩
  · unfold Asc; rw [List.pairwise_map]; exact h
  · obtain ⟨y, hy, rfl⟩ := List.mem_map.1 hx
    have := hr y hy
    show 1 ≤ y.2 % 1000 + 1
    omega
  · obtain ⟨y, hy, rfl⟩ := List.mem_map.1 hx
    exact hs y hy
end Pl
theorem bs_app (a b : ByteArray) : bs (a ++ b) = bs a ++ bs b := by simp [bs]
theorem Pl.lt_snoc (x : List UInt8) (b : UInt8) : x < x ++ [b] := by
  induction x with
  | nil => exact List.nil_lt_cons _ _
  | cons c x ih => rw [List.cons_append, List.cons_lt_cons_iff]; exact .inr ⟨rfl, ih⟩
def Pl.vok (lv : Int) (l : List Pl.Slot) (hi : ByteArray) (la : Bool) (ri : Int) : Prop :=
  0 ≤ lv ∧ Pl.v1 l ∧ (la = false → ∀ i (h : i < l.length), bs l[i].1 < bs hi) ∧ Pl.fin hi la ri ∧ 0 ≤ ri
def VPost (w : World) (la : Bool) (e : Ending) (w' : World) : Prop :=
  ∃ (lv' : Int) (A' : Option Addr) (c' n' : Nat) (l' : List Pl.Slot) (hi' : ByteArray) (ri' : Int), e = .returned (.agg #[.int .i64 lv', .slice A' n' c', .string hi', .bool la, .int .u64 ri']) ∧ l'.length = n' ∧
    w'.ownsRow w.heap.size 32 2 (.slice A' n' c') n' (l'.flatMap fS) ∧ Below w.heap.size w w' ∧ Pl.vok lv' l' hi' la ri'
def VRel (w : World) (q : Int) (hi : ByteArray) (la : Bool) (ri : Int) (wx : World) : Prop :=
  ∃ (A2 : Option Addr) (c2 n2 : Nat) (l2 : List Pl.Slot), l2.length = n2 ∧ wx.ownsRow (w.heap.size + 1 + 1) 32 2 (.slice A2 n2 c2) n2 (l2.flatMap fS) ∧
    Blk wx w.heap.size 25 #[.int .i64 q, .slice A2 n2 c2, .string hi, .bool la, .int .u64 ri] ∧ Blk wx (w.heap.size + 1) 25 #[.int .i64 0, .slice none 0 0, .string ⟨#[]⟩, .bool false, .int .u64 0] ∧ Below w.heap.size w wx ∧ Pl.v1 l2
set_option maxRecDepth 100000 in
set_option maxHeartbeats 8000000 in
theorem validAt (lv : Int) (A : Option Addr) (n c : Nat) (raw : List Pl.Slot) (hi : ByteArray) (la : Bool) (ri : Int) (w : World) (hn : raw.length = n) (hr : Rd w 2 A n (raw.flatMap fS)) (hm : n ≤ maxLen) (hri : 0 ≤ ri) (href : ∀ x ∈ raw, 0 ≤ x.2) (hsz : ∀ x ∈ raw, x.1.size ≤ 140737488351232) :
    Calls Try.prog 12 #[.agg #[.int .i64 lv, .slice A n c, .string hi, .bool la, .int .u64 ri]] w fun e w' => VPost w la e w' := by
  obtain ⟨L, hL⟩ : ∃ L, Pl.srt raw = L := ⟨_, rfl⟩
  have hok : Pl.Asc L ∧ L.length ≤ 40 := hL ▸ Pl.srtK_ok raw 40
  obtain ⟨hasc, hlen⟩ := hok
  have hB := (bel_box w (.cells #[.int .i64 lv, .slice A n c, .string hi, .bool la, .int .u64 ri] 25)).alloc (by simp) (.cells #[.int .i64 0, .slice none 0 0, .string ⟨#[]⟩, .bool false, .int .u64 0] 25)
  have HS := Lib.hid (sortedAt lv A n c raw hi la ri L _ hn (hr.below hB) hm hL)
  obtain ⟨m, hmL⟩ : ∃ m, L.length = m := ⟨_, rfl⟩
  rw [hmL] at HS hlen
  have HA := Lib.hid hasc
  have Href : Hid (∀ x ∈ L, 0 ≤ x.2) := Lib.hid fun x hx => href x (Pl.mem_srtK 40 (by rw [← hL] at hx; exact hx))
  have Hsz : Hid (∀ x ∈ L, x.1.size ≤ 140737488351232) := Lib.hid fun x hx => hsz x (Pl.mem_srtK 40 (by rw [← hL] at hx; exact hx))
  clear href hsz
  have HmL := Lib.hid hmL
  obtain ⟨q, hq, hq0⟩ : ∃ q, modOf lv 4 = q ∧ 0 ≤ q := ⟨_, rfl, (modOf_bd (a := lv) (m := 4) (by omega)).1⟩
  have HM := Lib.hid (fun W => modAt lv 4 q W (by omega) (by omega) hq)
  clear hL hasc hn hr hm hmL hB hq
  go_enter Try.func12, Try.ntmps12
  go_wp2_with fail
  refine HS.out.mono ?_
  rintro e w1 ⟨A1, c1, rfl, hown, hb1⟩
  have K1 := (Blk.new w 25 #[.int .i64 lv, .slice A n c, .string hi, .bool la, .int .u64 ri]).below ((bel_box _ (.cells #[.int .i64 0, .slice none 0 0, .string ⟨#[]⟩, .bool false, .int .u64 0] 25)).trans (hb1.mono (by simp))) (by simp)
  have Z1 := (Blk.new (w.alloc (.cells #[.int .i64 lv, .slice A n c, .string hi, .bool la, .int .u64 ri] 25)) 25 #[.int .i64 0, .slice none 0 0, .string ⟨#[]⟩, .bool false, .int .u64 0]).below hb1 (by simp)
  rw [show (w.alloc (.cells #[.int .i64 lv, .slice A n c, .string hi, .bool la, .int .u64 ri] 25)).heap.size = w.heap.size + 1 by simp] at Z1
  obtain ⟨⟨p0, p1, p2, p3, p4⟩, g0, g1, g2, g3, g4⟩ := page_of K1
  have hz := hb1.size
  simp at hz
  have l0 : w.heap.size < w1.heap.size := by omega
  have Hown := Lib.hid hown
  have Hb1 := Lib.hid hb1
  have HK := Lib.hid K1
  have HZ := Lib.hid Z1
  clear HS hown hb1 K1 Z1
  go_wp2_with (go_at_call 13; refine (HM.out _).mono ?_; rintro e w2 ⟨rfl, rfl⟩)
  have KV := (((((HK.out.set 0 (.int .i64 lv)).set 1 (.slice A1 m c1)).set 2 (.string hi)).set 3 (.bool la)).set 4 (.int .u64 ri)).set 0 (.int .i64 q)
  have e0 : ∀ i : Nat, w.heap.size + 1 ≠ (⟨w.heap.size, i, none⟩ : Addr).block := fun i => by dsimp only; omega
  have ZV := (((((HZ.out.far (e0 0) (.int .i64 lv)).far (e0 1) (.slice A1 m c1)).far (e0 2) (.string hi)).far (e0 3) (.bool la)).far (e0 4) (.int .u64 ri)).far (e0 0) (.int .i64 q)
  have lx : w.heap.size < w.heap.size + 1 + 1 := by omega
  have OV := ownsRow_setCell_below (ownsRow_setCell_below (ownsRow_setCell_below (ownsRow_setCell_below (ownsRow_setCell_below (ownsRow_setCell_below (own_base Hown.out (show w.heap.size + 1 + 1 ≤ _ by simp)) (a := ⟨w.heap.size, 0, none⟩) lx (.int .i64 lv)) (a := ⟨w.heap.size, 1, none⟩) lx (.slice A1 m c1)) (a := ⟨w.heap.size, 2, none⟩) lx (.string hi)) (a := ⟨w.heap.size, 3, none⟩) lx (.bool la)) (a := ⟨w.heap.size, 4, none⟩) lx (.int .u64 ri)) (a := ⟨w.heap.size, 0, none⟩) lx (.int .i64 q)
  have WV : Below w.heap.size w _ := ((((((below_of (below_of Hb1.out)).setCell (p := ⟨w.heap.size, 0, none⟩) (Nat.le_refl _) (.int .i64 lv)).setCell (p := ⟨w.heap.size, 1, none⟩) (Nat.le_refl _) (.slice A1 m c1)).setCell (p := ⟨w.heap.size, 2, none⟩) (Nat.le_refl _) (.string hi)).setCell (p := ⟨w.heap.size, 3, none⟩) (Nat.le_refl _) (.bool la)).setCell (p := ⟨w.heap.size, 4, none⟩) (Nat.le_refl _) (.int .u64 ri)).setCell (p := ⟨w.heap.size, 0, none⟩) (Nat.le_refl _) (.int .i64 q)
  clear HK HZ Hown Hb1 p0 p1 p2 p3 p4 g0 g1 g2 g3 g4 hz e0 lx
  generalize (((((w1.setCell ⟨w.heap.size, 0, none⟩ (.int .i64 lv)).setCell ⟨w.heap.size, 1, none⟩ (.slice A1 m c1)).setCell ⟨w.heap.size, 2, none⟩ (.string hi)).setCell ⟨w.heap.size, 3, none⟩ (.bool la)).setCell ⟨w.heap.size, 4, none⟩ (.int .u64 ri)).setCell ⟨w.heap.size, 0, none⟩ (.int .i64 q) = V at *
  have HKV := Lib.hid KV
  have HZV := Lib.hid ZV
  have HOV := Lib.hid OV
  have HWV := Lib.hid WV
  clear KV ZV OV WV
  have lV : w.heap.size + 1 < V.heap.size := HZV.out.lt
  go_loopw [3] (fun i wr => ∃ k : Nat, k ≤ m ∧ i = .int .i64 k ∧ wr.ownsRow (w.heap.size + 1 + 1) 32 2 (.slice A1 m c1) m ((Pl.vk k L).flatMap fS) ∧ Below (w.heap.size + 1 + 1) V wr) (fun i _ => m - (intOf i).toNat)
  case atStart => exact ⟨0, Nat.zero_le _, rfl, by simpa [Pl.vk] using HOV.out, Below.refl _ _⟩
  case round =>
    obtain ⟨k, hk, rfl, hown, hbel⟩ := hrel
    obtain ⟨⟨p0, p1, p2, p3, p4⟩, g0, g1, g2, g3, g4⟩ := page_of (HKV.out.below hbel (by omega))
    by_cases hlt : k < m
    · obtain ⟨g, cap, he, hgb, -⟩ := own_some hown (by omega)
      injection he with hA1 _ hcap
      subst hA1
      subst hcap
      have hkl : k < L.length := by rw [HmL.out]; exact hlt
      have hc1 := hown.cellAt (k * 2 + 1) (by omega)
      have hf1 := hown.frozenAt (k * 2 + 1)
      rw [flat_at fS_len _ _ _ (by rw [Pl.vk_len, HmL.out]; exact hlt) (by omega), Pl.vk_at k L hkl] at hc1
      have hv := Href.out _ (List.getElem_mem hkl)
      have Hset := Lib.hid (Pl.vk_set k L hkl)
      generalize L[k] = x at hc1 hv Hset
      obtain ⟨s, v⟩ := x
      dsimp only at hv
      have Hst := Lib.hid (hown.drew.stored (k * 2 + 1) (.int .u64 (v % 1000 + 1)))
      have Hbel := Lib.hid hbel
      change wr.cell? ⟨g, k * 2 + 1, none⟩ = some (.int .u64 v) at hc1
      have b0 : (0 : Int) ≤ v % 1000 := by omega
      have b1 : v % 1000 < 1000 := by omega
      have bt : v.tmod 1000 = v % 1000 := Int.tmod_eq_emod_of_nonneg hv
      have ng : ¬ w.heap.size = g := by omega
      clear hown hbel p0 p2 p3 p4 g0 g1 g2 g3 g4
      go_wp2_with fail
      go_region
      go_wp2_with fail
      have h1 := Hst.out.1
      rw [Hset.out] at h1
      refine ⟨⟨k + 1, by omega, by go_num, h1, ?_⟩, by simp [intOf]; omega⟩
      exact (Hbel.out.drew).grown Hst.out.2 (Nat.le_trans (show w.heap.size + 1 + 1 ≤ V.heap.size by omega) Hbel.out.size) (fun j hj => by injection hj with hj; omega)
    · obtain rfl : k = m := by omega
      have hend : Pl.vk k L = L.map Pl.vf := by rw [← HmL.out]; exact Pl.vk_end L
      rw [hend] at hown
      have Hown := Lib.hid hown
      have Hbel := Lib.hid hbel
      have KR := Lib.hid (HKV.out.below hbel (by omega))
      have ZR := Lib.hid (HZV.out.below hbel (by omega))
      have WR := Lib.hid (HWV.out.trans (hbel.mono (by omega)))
      have lr : w.heap.size + 1 + 1 ≤ wr.heap.size := Nat.le_trans (show w.heap.size + 1 + 1 ≤ V.heap.size by omega) hbel.size
      have Hv1 := Lib.hid (Pl.v1_map (L := L) HA.out (by rw [HmL.out]; exact hlen) Href.out Hsz.out)
      have Hv0 := Lib.hid Pl.v1_one
      clear hown hbel g0 g1 g2 g3 g4 p0 p2 p3 p4
      rw [HmL.out] at Hv1
      go_upto_if 34 with fail
      go_cut [34] (fun _ wx => VRel w q hi la ri wx)
      case first =>
        rcases Nat.eq_zero_or_pos k with h0 | h0
        · subst h0
          obtain ⟨⟨z0, z1, z2, z3, z4⟩, f0, f1, f2, f3, f4⟩ := page_of (KR.out.below (bel_box wr (.cells #[.string ⟨#[]⟩, .int .u64 1] 32)) KR.out.lt)
          have hd : ¬ w.heap.size = wr.heap.size := by omega
          go_wp2_with fail
          go_meet
          have K2 := (KR.out.below (bel_box wr (.cells #[.string ⟨#[]⟩, .int .u64 1] 32)) KR.out.lt).set 1 (.slice (some ⟨wr.heap.size, 0, none⟩) 1 1)
          have Z2 := (ZR.out.below (bel_box wr (.cells #[.string ⟨#[]⟩, .int .u64 1] 32)) ZR.out.lt).far (a := ⟨w.heap.size, 1, none⟩) (by dsimp only; omega) (.slice (some ⟨wr.heap.size, 0, none⟩) 1 1)
          have O2 := ownsRow_setCell_below (World.ownsRow_lit (e := 32) (base := w.heap.size + 1 + 1) (size := 2) wr #[.string ⟨#[]⟩, .int .u64 1] 1 lr (by unfold maxLen; omega) rfl) (a := ⟨w.heap.size, 1, none⟩) (by dsimp only; omega) (.slice (some ⟨wr.heap.size, 0, none⟩) 1 1)
          exact ⟨_, _, 1, [(⟨#[]⟩, 1)], rfl, O2, K2, Z2, ((WR.out.alloc WR.out.size _).setCell (by simp) _), Hv0.out⟩
        · have h1 : ((k : Int) == 0) = false := by rw [beq_eq_false_iff_ne]; omega
          have Hv := Hv1.out h0
          go_wp2_with fail
          go_meet
          exact ⟨A1, c1, k, L.map Pl.vf, by rw [List.length_map, HmL.out], Hown.out, KR.out, ZR.out, WR.out, Hv⟩
      case rest =>
        obtain ⟨A2, c2, n2, l2, hl2, hown, hK, hZ, hW, hv⟩ := hcut
        obtain ⟨⟨p0, p1, p2, p3, p4⟩, g0, g1, g2, g3, g4⟩ := page_of hK
        obtain ⟨⟨z0, z1, z2, z3, z4⟩, f0, f1, f2, f3, f4⟩ := page_of hZ
        have Hl2 := Lib.hid hl2
        have Hown := Lib.hid hown
        have HW := Lib.hid hW
        have Hv := Lib.hid hv
        have hn2 : 0 < n2 := by have := hv.1; omega
        have lw : w.heap.size + 1 < wc.heap.size := hZ.lt
        clear HKV HZV HWV HOV KR ZR WR Hv1 Hv0 Hbel HA Href Hsz HM
        cases la
        · obtain ⟨p, rfl⟩ : ∃ p, n2 = p + 1 := ⟨n2 - 1, by omega⟩
          obtain ⟨g, cap, he, hgb, -⟩ := own_some hown (by omega)
          injection he with hA2 _ hcap
          subst hA2
          subst hcap
          have hpl : p < l2.length := by rw [hl2]; omega
          have hc0 := hown.cellAt (p * 2) (by omega)
          have := flat_at fS_len l2 p 0 hpl (by omega)
          rw [Nat.add_zero] at this
          rw [this] at hc0
          change wc.cell? ⟨g, p * 2, none⟩ = some (.string l2[p].1) at hc0
          have hks := hv.2.2.2.2 _ (List.getElem_mem hpl)
          have Hle : Hid (∀ i (h : i < l2.length), bs l2[i].1 = bs l2[p].1 ∨ bs l2[i].1 < bs l2[p].1) := Lib.hid fun i h => by
            rcases Nat.lt_or_ge i p with g | g
            · exact .inr (Pl.asc_lt hv.2.2.1 g hpl)
            · obtain rfl : i = p := by omega
              exact .inl rfl
          generalize l2[p].1 = key at hc0 hks Hle
          have b0 : (0 : Int) ≤ ri % 1000 := by omega
          have b1 : ri % 1000 < 1000 := by omega
          have bt : ri.tmod 1000 = ri % 1000 := Int.tmod_eq_emod_of_nonneg hri
          have ng : ¬ w.heap.size = g := by omega
          have hp40 : p ≤ 40 := by have := hv.2.1; omega
          have ng1 : ¬ w.heap.size + 1 = g := by omega
          have ng2 : ¬ g = w.heap.size := by omega
          have ng3 : ¬ g = w.heap.size + 1 := by omega
          have hkn : ¬ 9223372036854775807 < key.size + 1 := by omega
          clear hl2 hown hK hZ hW hv this hks
          by_cases hs : bs key < bs hi
          · have hs1 : decide (bs key < bs hi) = true := decide_eq_true hs
            have hs2 : (!decide (bs key < bs hi)) = false := by rw [hs1]; rfl
            go_wp2_with fail
            refine bodyPost_ret (v := .agg #[.int .i64 q, .slice (some ⟨g, 0, none⟩) (p + 1) c2, .string hi, .bool false, .int .u64 (ri % 1000 + 1)]) ?_ rfl ?_
            · simp [results, Try.results12, go_sem, z0, z1, z2, z3, z4]
            · refine ⟨q, some ⟨g, 0, none⟩, c2, p + 1, l2, hi, (ri % 1000 + 1), rfl, Hl2.out, ?_, ?_, hq0, Hv.out, fun _ i h => (Hle.out i h).elim (fun e => by rw [e]; exact hs) (fun e => Pl.lt_tr e hs), ⟨(fun h => by cases h), fun _ => by omega⟩, by omega⟩
              · refine own_base (base := w.heap.size + 1 + 1) ?_ (by omega)
                iterate 6 (refine ownsRow_setCell_below ?_ (by dsimp only; omega) _)
                exact Hown.out
              · iterate 6 (refine Below.setCell ?_ (by simp) _)
                exact HW.out
          · have hs1 : decide (bs key < bs hi) = false := decide_eq_false hs
            have hs2 : (!decide (bs key < bs hi)) = true := by rw [hs1]; rfl
            go_wp2_with fail
            refine bodyPost_ret (v := .agg #[.int .i64 q, .slice (some ⟨g, 0, none⟩) (p + 1) c2, .string (key ++ ⟨#[1]⟩), .bool false, .int .u64 (ri % 1000 + 1)]) ?_ rfl ?_
            · simp [results, Try.results12, go_sem, z0, z1, z2, z3, z4]
            · refine ⟨q, some ⟨g, 0, none⟩, c2, p + 1, l2, (key ++ ⟨#[1]⟩), (ri % 1000 + 1), rfl, Hl2.out, ?_, ?_, hq0, Hv.out, fun _ i h => by
                        rw [bs_app]
                        exact (Hle.out i h).elim (fun e => by rw [e]; exact Pl.lt_snoc _ _) (fun e => Pl.lt_tr e (Pl.lt_snoc _ _)), ⟨(fun h => by cases h), fun _ => by omega⟩, by omega⟩
              · refine own_base (base := w.heap.size + 1 + 1) ?_ (by omega)
                iterate 7 (refine ownsRow_setCell_below ?_ (by dsimp only; omega) _)
                exact Hown.out
              · iterate 7 (refine Below.setCell ?_ (by simp) _)
                exact HW.out
        · clear hl2 hown hK hZ hW hv
          go_wp2_with fail
          refine bodyPost_ret (v := .agg #[.int .i64 q, .slice A2 n2 c2, .string ⟨#[]⟩, .bool true, .int .u64 0]) ?_ rfl ?_
          · simp [results, Try.results12, go_sem, z0, z1, z2, z3, z4]
          · refine ⟨q, A2, c2, n2, l2, ⟨#[]⟩, 0, rfl, Hl2.out, ?_, ?_, hq0, Hv.out, (fun h => by cases h), ⟨fun _ => ⟨rfl, rfl⟩, (fun h => by cases h)⟩, by omega⟩
            · refine own_base (base := w.heap.size + 1 + 1) ?_ (by omega)
              iterate 7 (refine ownsRow_setCell_below ?_ (by dsimp only; omega) _)
              exact Hown.out
            · iterate 7 (refine Below.setCell ?_ (by simp) _)
              exact HW.out
end Go.Proofs.Ytabmokekibgjeaa
