/-
  The document's Flip and Turn: what they answer.
-/
import Derived.Test.YtkpbnbnfgadkcaaRefB
namespace Go.Proofs.Ytkpbnbnfgadkcaa
open Go.RowKit
set_option linter.unusedVariables false
set_option linter.unusedSimpArgs false

set_option maxHeartbeats 400000 in
theorem refFlip_any (A : Option Addr) (n c : Nat) (l : List Spot) (w : World) (S : Nat → Prop) (hreach : l.length * 40 ≤ 140737488351232)
    (hl : SlV rSpot w S l (.slice A n c)) :
    Calls Try.prog 13 #[.slice A n c] w (Drawn w (flipR l)) := by
  have hnx := hl.n_eq
  have hn63 : n ≤ 9223372036854775807 := by omega
  have Hc := Lib.hid (refMay_any A n c l w S hn63 hl)
  have hl' := hl.more (S' := fun b => S b ∧ b < w.heap.size) fun b hb hlt => ⟨hb, hlt⟩
  have Hnx := Lib.hid hnx; clear hnx
  by_cases hm : mayB l = true
  · rw [hm] at Hc
    have Hr : Hid (flipR l = some (l.map flipF)) := by simp [Hid, flipR, hm]
    have hfar := (mayB_far hm).2
    have Hfar := Lib.hid hfar; clear hfar
    clear hm
    rw [Hr.out]
    go_enter Try.func13, Try.ntmps13
    go_wp2_with fail
    refine Hc.out.mono ?_
    rintro e w1 ⟨rfl, rfl⟩
    go_wp2_with fail
    go_loopw [4, 5] (fun v i wr => ∃ k : Nat, k ≤ n ∧ i = .int .i64 k ∧ Own rSpot wr w.heap.size 40 v ((l.take k).map flipF) (fun b => S b ∧ b < w.heap.size) ∧ Below w.heap.size w wr) (fun _ i _ => n - (intOf i).toNat)
    case atStart => exact ⟨0, Nat.zero_le _, rfl, Own.nil_ _ _ _ _ (fun b hb => hb.2), Below.refl _ _⟩
    case round =>
      obtain ⟨k, hk, rfl, hown, hbel⟩ := hrel
      by_cases hlt : k < n
      · have hkx : k < l.length := by have := Hnx.out; omega
        have hlw := hl'.below hbel (fun b hb => hb.2)
        obtain ⟨pb, po, cs, rfl, hSb, hb1, hsp, hcell⟩ := hlw.elem (List.getElem?_eq_getElem hkx)
        obtain ⟨p, rfl, hp, hx, hy⟩ := hsp
        obtain ⟨pA, pc, rfl, _, _⟩ := hp.val
        have hc0 := hcell 0 _ rfl
        have hc1 := hcell 1 _ rfl
        have hc2 := hcell 2 _ rfl
        simp only [rSpot, Nat.add_zero] at hc0 hc1 hc2
        obtain ⟨hf1, hf2⟩ := Hfar.out l[k] (List.getElem_mem hkx)
        have hng : (-(l[k]).y).natAbs < 2 ^ 53 := by rw [Int.natAbs_neg]; exact Nat.lt_of_le_of_lt hf2 (by decide)
        have m1 := wrap_small hng
        have m2 : IntKind.i64.wrap (0 - (l[k]).y) = -(l[k]).y := by rw [Int.zero_sub]; exact m1
        have he := elem_same (S := fun b => S b ∧ b < w.heap.size) hp ⟨Nat.lt_of_le_of_lt hf1 (by decide), hng⟩
        have Htk : Hid ((l.take (k + 1)).map flipF = (l.take k).map flipF ++ [flipF l[k]]) := by
          unfold Hid; rw [List.take_succ_eq_append_getElem hkx, List.map_append]; rfl
        have hlen : ((l.take k).map flipF).length = k := by simp; omega
        have Hlen := Lib.hid hlen; clear hlen
        generalize ((l.take k).map flipF) = done at *
        have hkn : (k : Int) < (n : Int) := by omega
        have hfar : some pb ≠ u4.ownBlock := fun he => by have := (hown.lt pb he.symm).1; have := hSb.2; omega
        have Hfarb := Lib.hid hfar; clear hfar
        have Hown := Lib.hid hown; clear hown
        generalize l[k] = s at *
        obtain ⟨path, x, y⟩ := s
        clear hp hx hy hcell hlw hf1 hf2 hng
        simp only at hc0 hc1 hc2 m1 m2 he
        generalize path.length = pn at *
        go_wp2_with fail
        go_region_held3 (fun w' => w'.cell? ⟨pb, po + k * 3, none⟩ = some (.slice pA pn pc) ∧ w'.cell? ⟨pb, po + k * 3 + 1, none⟩ = some (.int .i64 x) ∧ w'.cell? ⟨pb, po + k * 3 + 2, none⟩ = some (.int .i64 y))
          (first | go_keep | exact ⟨hgrow.cell (by go_keep) Hfarb.out, hgrow.cell (by go_keep) Hfarb.out, hgrow.cell (by go_keep) Hfarb.out⟩)
          ((refine step_push (by rfl) _ _ _ (by rfl) elt_refspot Try.underlying22 (by rfl) ((Hown.out.alloc _).drew) ⟨wr.heap.size, 0, none⟩ 1 [.slice pA pn pc, .int .i64 x, .int .i64 (-y)] ⟨path, x, -y⟩ (by rfl) (Rp.drew (Rp.alloc he.out _))
              (news_of wr #[.slice pA pn pc, .int .i64 x, .int .i64 (-y)] _) (by rw [Hlen.out]; simp [maxLen]; omega) (by rw [Hlen.out]; omega) (by simp; exact Nat.le_succ_of_le hbel.size) (wr.heap.size + 1) (by simp) ?_; intro g cap w1 hown1 hgrow hat hg1))
        clear m1 m2
        rw [Hlen.out] at hown1
        go_wp2
        rw [Hlen.out]
        go_roundw
        case rel => exact ⟨k + 1, by omega, by go_num, by rw [Htk.out]; exact hown1, ((hbel.alloc hbel.size _).drew).grown hgrow (by simp; exact Nat.le_succ_of_le hbel.size) (fun g' hg' => (Hown.out.lt g' hg').1)⟩
        case measure => simp [intOf]; omega
      · go_wp2
        go_ret2
        have hkn : k = l.length := by have := Hnx.out; omega
        have hsl := hown.slv
        rw [hkn, List.take_length] at hsl
        exact ⟨_, rfl, hsl.more (fun _ _ _ => trivial), hbel⟩
  · rw [Bool.not_eq_true] at hm
    rw [hm] at Hc
    have Hr : Hid (flipR l = none) := by simp [Hid, flipR, hm]
    clear hm
    rw [Hr.out]
    go_enter Try.func13, Try.ntmps13
    go_wp2_with fail
    refine Hc.out.mono ?_
    rintro e w1 ⟨rfl, rfl⟩
    go_wp2
    go_ret2
    exact ⟨_, rfl, SlV.nil_ _ _ _, Below.refl _ _⟩

/-- one quarter more -/
theorem quart_step (k : Nat) (s : Spot) : twistF (quart (k + 1)).1 (quart (k + 1)).2 s = ⟨s.path, -(twistF (quart k).1 (quart k).2 s).y, (twistF (quart k).1 (quart k).2 s).x⟩ := by
  simp only [quart, twistF, Int.mul_neg, Spot.mk.injEq, true_and]
  omega
theorem quart_zero (s : Spot) : twistF (quart 0).1 (quart 0).2 s = s := by
  simp [quart, twistF]
theorem quart_far {s : Spot} (hx : s.x.natAbs ≤ 1099511627776) (hy : s.y.natAbs ≤ 1099511627776) (k : Nat) :
    (twistF (quart k).1 (quart k).2 s).x.natAbs ≤ 1099511627776 ∧ (twistF (quart k).1 (quart k).2 s).y.natAbs ≤ 1099511627776 := by
  induction k with
  | zero => rw [quart_zero]; exact ⟨hx, hy⟩
  | succ k ih => rw [quart_step]; simp only [Int.natAbs_neg]; exact ⟨ih.2, ih.1⟩
theorem quart_path (s : Spot) (k : Nat) : (twistF (quart k).1 (quart k).2 s).path = s.path := rfl

set_option maxHeartbeats 400000 in
theorem turned_any (A : Option Addr) (n c : Nat) (q : Int) (l : List Spot) (w : World) (S : Nat → Prop) (hreach : l.length * 40 ≤ 140737488351232) (hq : I64 q)
    (hfar : ∀ s ∈ l, s.x.natAbs ≤ 1099511627776 ∧ s.y.natAbs ≤ 1099511627776) (hl : SlV rSpot w S l (.slice A n c)) :
    Calls Try.prog 25 #[.slice A n c, .int .i64 q] w fun e w' => ∃ v, e = .returned v ∧ SlV rSpot w' (fun b => S b ∨ w.heap.size ≤ b) (l.map (turnF q)) v ∧ Below w.heap.size w w' := by
  have hnx := hl.n_eq
  have hn63 : n ≤ 9223372036854775807 := by omega
  have hl' := hl.more (S' := fun b => S b ∧ b < w.heap.size) fun b hb hlt => ⟨hb, hlt⟩
  have Hnx := Lib.hid hnx; clear hnx
  have Hfar := Lib.hid hfar; clear hfar
  have HQ := Lib.hid (quarter_any q hq)
  obtain ⟨hq0, hq3⟩ := quarters_lt q
  clear hq
  go_enter Try.func25, Try.ntmps25
  go_wp2_with fail
  go_loopw [5, 6] (fun v i wr => ∃ k : Nat, k ≤ n ∧ i = .int .i64 k ∧ Own rSpot wr w.heap.size 40 v ((l.take k).map (turnF q)) (fun b => S b ∧ b < w.heap.size) ∧ Below w.heap.size w wr) (fun _ i _ => n - (intOf i).toNat)
  case atStart => exact ⟨0, Nat.zero_le _, rfl, Own.nil_ _ _ _ _ (fun b hb => hb.2), Below.refl _ _⟩
  case round =>
    obtain ⟨k, hk, rfl, hown, hbel⟩ := hrel
    by_cases hlt : k < n
    · have hkx : k < l.length := by have := Hnx.out; omega
      have hlw := hl'.below hbel (fun b hb => hb.2)
      obtain ⟨pb, po, cs, rfl, hSb, hb1, hsp, hcell⟩ := hlw.elem (List.getElem?_eq_getElem hkx)
      obtain ⟨p, rfl, hp, hx, hy⟩ := hsp
      obtain ⟨pA, pc, rfl, _, _⟩ := hp.val
      have hc0 := hcell 0 _ rfl
      have hc1 := hcell 1 _ rfl
      have hc2 := hcell 2 _ rfl
      simp only [rSpot, Nat.add_zero] at hc0 hc1 hc2
      have hkn : (k : Int) < (n : Int) := by omega
      obtain ⟨hf1, hf2⟩ := Hfar.out l[k] (List.getElem_mem hkx)
      have hT := quart_far hf1 hf2
      have hT0 := quart_zero l[k]
      have hTs := fun i => quart_step i l[k]
      have hTe : twistF (quart (quarters q).toNat).1 (quart (quarters q).toNat).2 l[k] = turnF q l[k] := rfl
      have hpth := fun i => quart_path l[k] i
      have Htk : Hid ((l.take (k + 1)).map (turnF q) = (l.take k).map (turnF q) ++ [turnF q l[k]]) := by
        unfold Hid; rw [List.take_succ_eq_append_getElem hkx, List.map_append]; rfl
      have hlen : ((l.take k).map (turnF q)).length = k := by simp; omega
      have Hlen := Lib.hid hlen; clear hlen
      generalize ((l.take k).map (turnF q)) = done at *
      generalize turnF q l[k] = fin at *
      generalize hTT : (fun i => twistF (quart i).1 (quart i).2 l[k]) = T at *
      have hTT' := fun i => congrFun hTT i
      simp only [hTT'] at hT hT0 hTs hTe hpth
      clear hTT hTT'
      have HT := Lib.hid hT; clear hT
      have HT0 := Lib.hid hT0; clear hT0
      have HTs := Lib.hid hTs; clear hTs
      have HTe := Lib.hid hTe; clear hTe
      have Hpth := Lib.hid hpth; clear hpth
      have hpl := hp
      have Hpl := Lib.hid hpl; clear hpl
      have Hown := Lib.hid hown; clear hown
      generalize l[k] = s at *
      obtain ⟨path, x, y⟩ := s
      clear hp hx hy hcell hlw hf1 hf2
      simp only at hc0 hc1 hc2 Hpl Hpth
      generalize path.length = pn at *
      generalize hQ : quarters q = Q at *
      clear hQ
      go_wp2_with fail
      refine (HQ.out _).mono ?_
      rintro e w1 ⟨rfl, rfl⟩
      go_wp2_with fail
      obtain ⟨wo, hwo⟩ : ∃ wo : World, wo = wr := ⟨_, rfl⟩
      subst hwo
      go_loopw [8] (fun j wi => ∃ i : Nat, (i : Int) ≤ Q ∧ j = .int .i64 (Q - i) ∧ wi.cell? ⟨wo.heap.size, 0, none⟩ = some (.slice pA pn pc) ∧ wi.cell? ⟨wo.heap.size, 1, none⟩ = some (.int .i64 (T i).x) ∧ wi.cell? ⟨wo.heap.size, 2, none⟩ = some (.int .i64 (T i).y) ∧
          wi.frozen? ⟨wo.heap.size, 0, none⟩ = false ∧ wi.frozen? ⟨wo.heap.size, 1, none⟩ = false ∧ wi.frozen? ⟨wo.heap.size, 2, none⟩ = false ∧ Below wo.heap.size wo wi ∧ Hid (wi.heap.size = wo.heap.size + 1)) (fun j _ => (intOf j).toNat)
      case atStart => exact ⟨0, hq0, by simp, by simp, by rw [HT0.out]; simp, by rw [HT0.out]; simp, by simp [go_sem], by simp [go_sem], by simp [go_sem], (Below.refl _ _).alloc (Nat.le_refl _) _, by simp [Hid]⟩
      case round =>
        obtain ⟨i, hi, rfl, hd0, hd1, hd2, hg0, hg1, hg2, hbi, hzi⟩ := hrel
        obtain ⟨b1, b2⟩ := HT.out i
        have hst := HTs.out i
        have Hst := Lib.hid hst; clear hst
        by_cases hj : (i : Int) < Q
        · go_wp2_with fail
          go_roundw
          case rel =>
            refine ⟨i + 1, by omega, by congr 1; omega, by simp [go_sem, hd0, hd1, hd2], by rw [Hst.out]; simp [go_sem, hd0, hd1, hd2], by rw [Hst.out]; simp [go_sem, hd0, hd1, hd2], by simp [go_sem, hg0, hg1, hg2], by simp [go_sem, hg0, hg1, hg2], by simp [go_sem, hg0, hg1, hg2], ?_, ?_⟩
            · exact ((hbi.setCell (by simp) _).setCell (by simp) _).setCell (by simp) _
            · unfold Hid; simp [World.setCell, hzi.out]
          case measure => simp [intOf]; omega
        · have HO := Lib.hid (Hown.out.keep hbi)
          have HE := elem_same (Hpl.out.belowSize hbi) ⟨Nat.lt_of_le_of_lt b1 (by decide), Nat.lt_of_le_of_lt b2 (by decide)⟩
          have hTi : Hid (T i = fin) := by
            have : i = Q.toNat := by omega
            unfold Hid; rw [this]; exact HTe.out
          have Hp2 := Lib.hid (Hpth.out i)
          have Hwz : w.heap.size ≤ wr.heap.size := Nat.le_trans hbel.size hbi.size
          generalize hX : (T i).x = X at *
          generalize hY : (T i).y = Y at *
          have HXY : Hid (fin = ⟨path, X, Y⟩) := by
            unfold Hid; rw [← hTi.out, ← hX, ← hY, ← Hp2.out]
          clear hX hY b1 b2
          go_wp2_with (at_builtin; (refine wpList_push (by rfl) _ _ _ (by rfl) elt_refspot Try.underlying22 (by rfl) (HO.out.alloc _) ⟨wr.heap.size, 0, none⟩ 1 [.slice pA pn pc, .int .i64 X, .int .i64 Y] ⟨path, X, Y⟩ (by rfl) (Rp.alloc HE.out _) (news_of wr #[.slice pA pn pc, .int .i64 X, .int .i64 Y] _) ?_ ?_ ?_ (wr.heap.size + 1) (by simp) ?_); rotate_right; (intro g cap w1 hown1 hgrow hat hg1))
          rotate_left
          · rw [Hlen.out]; simp [maxLen]; omega
          · rw [Hlen.out]; omega
          · first | omega | (simp; omega)
          rw [Hlen.out] at hown1
          rw [Hlen.out]
          go_roundw
          case rel =>
            refine ⟨k + 1, by omega, by go_num, by rw [Htk.out, HXY.out]; exact hown1, ?_⟩
            exact ((hbel.trans (hbi.mono hbel.size)).alloc Hwz _).grown hgrow (by simp; omega) (fun g' hg' => (Hown.out.lt g' hg').1)
          case measure => simp [intOf]; omega
    · go_wp2
      go_ret
      have hkn : k = l.length := by have := Hnx.out; omega
      have hsl := hown.slv
      rw [hkn, List.take_length] at hsl
      exact ⟨_, rfl, hsl.more (fun b hb _ => by rcases hb with h | h; exact .inl h.1; exact .inr h), hbel⟩

theorem refTurn_any (A : Option Addr) (n c : Nat) (q : Int) (l : List Spot) (w : World) (S : Nat → Prop) (hreach : l.length * 40 ≤ 140737488351232) (hq : I64 q)
    (hl : SlV rSpot w S l (.slice A n c)) :
    Calls Try.prog 11 #[.slice A n c, .int .i64 q] w (Drawn w (turnR l q)) := by
  have hnx := hl.n_eq
  have hn63 : n ≤ 9223372036854775807 := by omega
  have Hc := Lib.hid (refMay_any A n c l w S hn63 hl)
  have Hnx := Lib.hid hnx; clear hnx
  by_cases hm : mayB l = true
  · rw [hm] at Hc
    have Hr : Hid (turnR l q = some (l.map (turnF q))) := by simp [Hid, turnR, hm]
    have Ht := Lib.hid (turned_any A n c q l w S hreach hq (mayB_far hm).2 hl)
    clear hm hl hq
    rw [Hr.out]
    go_enter Try.func11, Try.ntmps11
    go_wp2_with fail
    refine Hc.out.mono ?_
    rintro e w1 ⟨rfl, rfl⟩
    go_wp2_with fail
    refine Ht.out.mono ?_
    rintro e w1 ⟨v, rfl, hv, hb⟩
    go_wp2_with fail
    go_ret2
    exact ⟨_, rfl, hv.more (fun _ _ _ => trivial), hb⟩
  · rw [Bool.not_eq_true] at hm
    rw [hm] at Hc
    have Hr : Hid (turnR l q = none) := by simp [Hid, turnR, hm]
    clear hm hl hq
    rw [Hr.out]
    go_enter Try.func11, Try.ntmps11
    go_wp2_with fail
    refine Hc.out.mono ?_
    rintro e w1 ⟨rfl, rfl⟩
    go_wp2
    go_ret2
    exact ⟨_, rfl, SlV.nil_ _ _ _, Below.refl _ _⟩
end Go.Proofs.Ytkpbnbnfgadkcaa
