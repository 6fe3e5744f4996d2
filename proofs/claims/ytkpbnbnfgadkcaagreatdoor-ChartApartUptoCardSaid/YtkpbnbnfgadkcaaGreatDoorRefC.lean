/-
  The document's May, Twist, Turn and Flip: the same answers. The document's Twist, Turn and Flip: what they answer. The document's Flip and Turn: what they answer.
-/
import Derived.Test.YtkpbnbnfgadkcaaGreatDoorChartE
namespace Go.Proofs.YtkpbnbnfgadkcaaGreatDoor
open Go.RowKit
set_option maxRecDepth 100000
set_option linter.unusedVariables false
set_option linter.unusedSimpArgs false

theorem elt_refspot : Elt Tryz.prog 65 3 40 := Elt.mk' (z := .agg #[.slice none 0 0, .int .i64 0, .int .i64 0]) (by kernel_rfl) rfl (by decide)

theorem any_step {α : Type} {p : α → Bool} {l : List α} {k : Nat} (h : k < l.length) (hp : p l[k] = false) : (l.drop k).any p = (l.drop (k + 1)).any p := by
  rw [List.drop_eq_getElem_cons h, List.any_cons, hp, Bool.false_or]
theorem any_hit {α : Type} {p : α → Bool} {l : List α} {k : Nat} (h : k < l.length) (hp : p l[k] = true) : (l.drop k).any p = true := by
  rw [List.drop_eq_getElem_cons h, List.any_cons, hp, Bool.true_or]

theorem quarter_any (q : Int) (hq : I64 q) (w : World) :
    Calls Tryz.prog 43 #[.int .i64 q] w fun e w' => e = .returned (.int .i64 (quarters q)) ∧ w = w' := by
  obtain ⟨hm1, hm2⟩ := tmod4 q
  unfold I64 at hq
  obtain ⟨hq3, hq4⟩ := hq
  by_cases h : q.tmod 4 < 0
  all_goals
    have hr : Hid (quarters q = if q.tmod 4 < 0 then q.tmod 4 + 4 else q.tmod 4) := by unfold Hid quarters; split <;> omega
    go_enter Tryz.func43, Tryz.ntmps43
    go_wp2
    go_ret
    exact ⟨ret_int (by rw [hr.out]; split <;> omega), rfl⟩
end Go.Proofs.YtkpbnbnfgadkcaaGreatDoor
namespace Go.Proofs.YtkpbnbnfgadkcaaGreatDoor
open Go.RowKit
set_option maxRecDepth 100000
set_option linter.unusedVariables false
set_option linter.unusedSimpArgs false

theorem wrap_small {n : Int} (h : n.natAbs < 2 ^ 53) : IntKind.i64.wrap n = n := by
  rw [show (2 : Nat) ^ 53 = 9007199254740992 from by decide] at h
  exact IntWalk.i64_in _ (by omega)

/-- the parts of a product of small numbers: none wraps -/
theorem mul_parts {x y u v : Int} (hx : x.natAbs ≤ 1099511627776) (hy : y.natAbs ≤ 1099511627776) (hu : u.natAbs ≤ 1024) (hv : v.natAbs ≤ 1024) :
    IntKind.i64.wrap (x * u) = x * u ∧ IntKind.i64.wrap (y * v) = y * v ∧ IntKind.i64.wrap (x * u - y * v) = x * u - y * v ∧
    IntKind.i64.wrap (x * v) = x * v ∧ IntKind.i64.wrap (y * u) = y * u ∧ IntKind.i64.wrap (x * v + y * u) = x * v + y * u := by
  have h1 : (x * u).natAbs < 1125899906842625 := natAbs_mul_lt hx hu (by omega)
  have h2 : (y * v).natAbs < 1125899906842625 := natAbs_mul_lt hy hv (by omega)
  have h4 : (x * v).natAbs < 1125899906842625 := natAbs_mul_lt hx hv (by omega)
  have h5 : (y * u).natAbs < 1125899906842625 := natAbs_mul_lt hy hu (by omega)
  generalize x * u = A at *
  generalize y * v = B at *
  generalize x * v = C at *
  generalize y * u = D at *
  refine ⟨IntWalk.i64_in _ (by omega), IntWalk.i64_in _ (by omega), IntWalk.i64_in _ (by omega), IntWalk.i64_in _ (by omega), IntWalk.i64_in _ (by omega), IntWalk.i64_in _ (by omega)⟩

theorem elem_same {w : World} {S : Nat → Prop} {path : List ByteArray} {q : Value} {X Y : Int} (hq : SlV rStr w S path q) (h : X.natAbs < 2 ^ 53 ∧ Y.natAbs < 2 ^ 53) :
    Hid (rSpot.holds w S ⟨path, X, Y⟩ [q, .int .i64 X, .int .i64 Y]) := ⟨q, rfl, hq, i64_of_53 h.1, i64_of_53 h.2⟩

end Go.Proofs.YtkpbnbnfgadkcaaGreatDoor
namespace Go.Proofs.YtkpbnbnfgadkcaaGreatDoor
open Go.RowKit
set_option maxRecDepth 100000
set_option linter.unusedVariables false
set_option linter.unusedSimpArgs false

/-- one quarter more -/
theorem quart_step (k : Nat) (s : Spot) : twistF (quart (k + 1)).1 (quart (k + 1)).2 s = ⟨s.path, -(twistF (quart k).1 (quart k).2 s).y, (twistF (quart k).1 (quart k).2 s).x⟩ := by
  simp only [quart, twistF, Int.mul_neg, Spot.mk.injEq, true_and]
  omega
theorem quart_zero (s : Spot) : twistF (quart 0).1 (quart 0).2 s = s := by
  simp [quart, twistF]
theorem quart_far {s : Spot} (hx : s.x.natAbs ≤ 1099511627776) (hy : s.y.natAbs ≤ 1099511627776) (k : Nat) :
    (twistF (quart k).1 (quart k).2 s).x.natAbs ≤ 1099511627776 ∧ (twistF (quart k).1 (quart k).2 s).y.natAbs ≤ 1099511627776 := by
  induction k with
  | zero => rw [quart_zero]; exact ⟨hx, hy⟩
  | succ k ih => rw [quart_step]; simp only [Int.natAbs_neg]; exact ⟨ih.2, ih.1⟩
theorem quart_path (s : Spot) (k : Nat) : (twistF (quart k).1 (quart k).2 s).path = s.path := rfl

set_option maxHeartbeats 1600000 in
theorem turned_any (A : Option Addr) (n c : Nat) (q : Int) (l : List Spot) (w : World) (S : Nat → Prop) (hreach : l.length * 40 ≤ 140737488351232) (hq : I64 q)
    (hfar : ∀ s ∈ l, s.x.natAbs ≤ 1099511627776 ∧ s.y.natAbs ≤ 1099511627776) (hl : SlV rSpot w S l (.slice A n c)) :
    Calls Tryz.prog 24 #[.slice A n c, .int .i64 q] w fun e w' => ∃ v, e = .returned v ∧ SlV rSpot w' (fun b => S b ∨ w.heap.size ≤ b) (l.map (turnF q)) v ∧ Below w.heap.size w w' := by
  have hnx := hl.n_eq
  have hn63 : n ≤ 9223372036854775807 := by omega
  have hl' := hl.more (S' := fun b => S b ∧ b < w.heap.size) fun b hb hlt => ⟨hb, hlt⟩
  have Hnx := Lib.hid hnx; clear hnx
  have Hfar := Lib.hid hfar; clear hfar
  have HQ := Lib.hid (quarter_any q hq)
  obtain ⟨hq0, hq3⟩ := quarters_lt q
  clear hq
  go_enter Tryz.func24, Tryz.ntmps24
  go_wp2_with fail
  go_loopw [5, 6] (fun v i wr => ∃ k : Nat, k ≤ n ∧ i = .int .i64 k ∧ Own rSpot wr w.heap.size 65 v ((l.take k).map (turnF q)) (fun b => S b ∧ b < w.heap.size) ∧ Below w.heap.size w wr) (fun _ i _ => n - (intOf i).toNat)
  case atStart => exact ⟨0, Nat.zero_le _, rfl, Own.nil_ _ _ _ _ (fun b hb => hb.2), Below.refl _ _⟩
  case round =>
    obtain ⟨k, hk, rfl, hown, hbel⟩ := hrel
    by_cases hlt : k < n
    · have hkx : k < l.length := by have := Hnx.out; omega
      have hlw := hl'.below hbel (fun b hb => hb.2)
      obtain ⟨pb, po, cs, rfl, hSb, hb1, hsp, hcell⟩ := hlw.elem (List.getElem?_eq_getElem hkx)
      obtain ⟨p, rfl, hp, hx, hy⟩ := hsp
      obtain ⟨pA, pc, rfl, _, _⟩ := hp.val
      have hc0 := hcell 0 _ rfl
      have hc1 := hcell 1 _ rfl
      have hc2 := hcell 2 _ rfl
      simp only [rSpot, Nat.add_zero] at hc0 hc1 hc2
      have hkn : (k : Int) < (n : Int) := by omega
      obtain ⟨hf1, hf2⟩ := Hfar.out l[k] (List.getElem_mem hkx)
      have hT := quart_far hf1 hf2
      have hT0 := quart_zero l[k]
      have hTs := fun i => quart_step i l[k]
      have hTe : twistF (quart (quarters q).toNat).1 (quart (quarters q).toNat).2 l[k] = turnF q l[k] := rfl
      have hpth := fun i => quart_path l[k] i
      have Htk : Hid ((l.take (k + 1)).map (turnF q) = (l.take k).map (turnF q) ++ [turnF q l[k]]) := by
        unfold Hid; rw [List.take_succ_eq_append_getElem hkx, List.map_append]; rfl
      have hlen : ((l.take k).map (turnF q)).length = k := by simp; omega
      have Hlen := Lib.hid hlen; clear hlen
      generalize ((l.take k).map (turnF q)) = done at *
      generalize turnF q l[k] = fin at *
      generalize hTT : (fun i => twistF (quart i).1 (quart i).2 l[k]) = T at *
      have hTT' := fun i => congrFun hTT i
      simp only [hTT'] at hT hT0 hTs hTe hpth
      clear hTT hTT'
      have HT := Lib.hid hT; clear hT
      have HT0 := Lib.hid hT0; clear hT0
      have HTs := Lib.hid hTs; clear hTs
      have HTe := Lib.hid hTe; clear hTe
      have Hpth := Lib.hid hpth; clear hpth
      have hpl := hp
      have Hpl := Lib.hid hpl; clear hpl
      have Hown := Lib.hid hown; clear hown
      generalize l[k] = s at *
      obtain ⟨path, x, y⟩ := s
      clear hp hx hy hcell hlw hf1 hf2
      simp only at hc0 hc1 hc2 Hpl Hpth
      generalize path.length = pn at *
      generalize hQ : quarters q = Q at *
      clear hQ
      go_wp2_with fail
      refine (HQ.out _).mono ?_
      rintro e w1 ⟨rfl, rfl⟩
      go_wp2_with fail
      obtain ⟨wo, hwo⟩ : ∃ wo : World, wo = wr := ⟨_, rfl⟩
      subst hwo
      go_loopw [8] (fun j wi => ∃ i : Nat, (i : Int) ≤ Q ∧ j = .int .i64 (Q - i) ∧ wi.cell? ⟨wo.heap.size, 0, none⟩ = some (.slice pA pn pc) ∧ wi.cell? ⟨wo.heap.size, 1, none⟩ = some (.int .i64 (T i).x) ∧ wi.cell? ⟨wo.heap.size, 2, none⟩ = some (.int .i64 (T i).y) ∧
          wi.frozen? ⟨wo.heap.size, 0, none⟩ = false ∧ wi.frozen? ⟨wo.heap.size, 1, none⟩ = false ∧ wi.frozen? ⟨wo.heap.size, 2, none⟩ = false ∧ Below wo.heap.size wo wi ∧ Hid (wi.heap.size = wo.heap.size + 1)) (fun j _ => (intOf j).toNat)
      case atStart => exact ⟨0, hq0, by simp, by simp, by rw [HT0.out]; simp, by rw [HT0.out]; simp, by simp [go_sem], by simp [go_sem], by simp [go_sem], (Below.refl _ _).alloc (Nat.le_refl _) _, by simp [Hid]⟩
      case round =>
        obtain ⟨i, hi, rfl, hd0, hd1, hd2, hg0, hg1, hg2, hbi, hzi⟩ := hrel
        obtain ⟨b1, b2⟩ := HT.out i
        have hst := HTs.out i
        have Hst := Lib.hid hst; clear hst
        by_cases hj : (i : Int) < Q
        · go_wp2_with fail
          go_roundw
          case rel =>
            refine ⟨i + 1, by omega, by congr 1; omega, by simp [go_sem, hd0, hd1, hd2], by rw [Hst.out]; simp [go_sem, hd0, hd1, hd2], by rw [Hst.out]; simp [go_sem, hd0, hd1, hd2], by simp [go_sem, hg0, hg1, hg2], by simp [go_sem, hg0, hg1, hg2], by simp [go_sem, hg0, hg1, hg2], ?_, ?_⟩
            · exact ((hbi.setCell (by simp) _).setCell (by simp) _).setCell (by simp) _
            · unfold Hid; simp [World.setCell, hzi.out]
          case measure => simp [intOf]; omega
        · have HO := Lib.hid (Hown.out.keep hbi)
          have HE := elem_same (Hpl.out.belowSize hbi) ⟨Nat.lt_of_le_of_lt b1 (by decide), Nat.lt_of_le_of_lt b2 (by decide)⟩
          have hTi : Hid (T i = fin) := by
            have : i = Q.toNat := by omega
            unfold Hid; rw [this]; exact HTe.out
          have Hp2 := Lib.hid (Hpth.out i)
          have Hwz : w.heap.size ≤ wr.heap.size := Nat.le_trans hbel.size hbi.size
          generalize hX : (T i).x = X at *
          generalize hY : (T i).y = Y at *
          have HXY : Hid (fin = ⟨path, X, Y⟩) := by
            unfold Hid; rw [← hTi.out, ← hX, ← hY, ← Hp2.out]
          clear hX hY b1 b2
          go_wp2_with (at_builtin; (refine wpList_push (by rfl) _ _ _ (by rfl) elt_refspot Tryz.underlying29 (by rfl) (HO.out.alloc _) ⟨wr.heap.size, 0, none⟩ 1 [.slice pA pn pc, .int .i64 X, .int .i64 Y] ⟨path, X, Y⟩ (by rfl) (Rp.alloc HE.out _) (news_of wr #[.slice pA pn pc, .int .i64 X, .int .i64 Y] _) ?_ ?_ ?_ (wr.heap.size + 1) (by simp) ?_); rotate_right; (intro g cap w1 hown1 hgrow hat hg1))
          rotate_left
          · rw [Hlen.out]; simp [maxLen]; omega
          · rw [Hlen.out]; omega
          · first | omega | (simp; omega)
          rw [Hlen.out] at hown1
          rw [Hlen.out]
          go_roundw
          case rel =>
            refine ⟨k + 1, by omega, by go_num, by rw [Htk.out, HXY.out]; exact hown1, ?_⟩
            exact ((hbel.trans (hbi.mono hbel.size)).alloc Hwz _).grown hgrow (by simp; omega) (fun g' hg' => (Hown.out.lt g' hg').1)
          case measure => simp [intOf]; omega
    · go_wp2
      go_ret
      have hkn : k = l.length := by have := Hnx.out; omega
      have hsl := hown.slv
      rw [hkn, List.take_length] at hsl
      exact ⟨_, rfl, hsl.more (fun b hb _ => by rcases hb with h | h; exact .inl h.1; exact .inr h), hbel⟩

end Go.Proofs.YtkpbnbnfgadkcaaGreatDoor
