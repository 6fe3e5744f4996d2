/-
  The laws ChartDraws and ChartTurns, walked.
-/
import Derived.Test.YtkpbnbnfgadkcaaGreatDoorDrawC
set_option autoImplicit false
set_option relaxedAutoImplicit false
set_option linter.unusedVariables false
set_option linter.unusedSimpArgs false
namespace Go.Proofs.YtkpbnbnfgadkcaaGreatDoor
open Go.Rows Go.RowKit Go.Shelf Go.Sort

theorem below_drewN {w W : World} (h : Below w.heap.size w W) (k : Nat) : Below w.heap.size w (W.drewN k) := ⟨h.os, h.tape, h.output, h.size, h.block⟩

set_option maxHeartbeats 3200000 in
set_option maxRecDepth 100000 in
theorem chartDraws_any (A : Option Addr) (n c : Nat) (xs : List Dir) (q : Int) (w : World) (ht : Tab w) (hx : SlV rDir w (fun b => b < w.heap.size) xs (.slice A n c)) (hlen : ∀ d ∈ xs, d.path.length * 32 ≤ 140737488355328) (hnb : xs.length ≤ 1048576) (hq : I64 q) :
    Calls Tryz.prog 3 #[.agg #[.slice A n c], .int .i64 q] w fun e w' => e = .returned (.bool true) ∧ Below w.heap.size w w' := by
  have Hd1 : Hid (∀ W, Below w.heap.size w W → Calls Tryz.prog 7 #[.agg #[.slice A n c], .int .i64 q] W fun e w' => ∃ v, e = .returned (.tuple #[v, .int .i64 (codeT (drawnR xs q))]) ∧ SlV rSpot w' (fun _ => True) ((drawnR xs q).getD []) v ∧ Below W.heap.size W w') := fun W hW => draw_any A n c xs q W (tab_below ht hW) ((hx.belowSize hW).more fun b _ h => h) hlen hnb hq
  have Hd2 : Hid (∀ W, Below w.heap.size w W → Calls Tryz.prog 8 #[.agg #[.slice A n c], .int .i64 q] W fun e w' => ∃ v, e = .returned (.tuple #[v, .int .i64 (codeT (drawnR xs q))]) ∧ SlV rSpot w' (fun _ => True) ((drawnR xs q).getD []) v ∧ Below W.heap.size W w') := fun W hW => refDraw_any A n c xs q W ((hx.belowSize hW).more fun b _ h => h) hlen hnb hq
  clear hx hlen hnb hq ht
  generalize codeT (drawnR xs q) = E at *
  generalize (drawnR xs q).getD [] = D at *
  have hEE : (E == E) = true := by simp
  go_enter Tryz.func3, Tryz.ntmps3
  go_wp2_with fail
  obtain ⟨w0, hw0⟩ : ∃ w0, w0 = w.alloc (.cells #[.slice A n c] 24) := ⟨_, rfl⟩
  have hz : w.heap.size < w0.heap.size := by rw [hw0]; simp [go_sem]
  have HB0 : Hid (Below w.heap.size w w0) := by unfold Hid; rw [hw0]; exact bal (Below.refl _ _) _
  have a0 : w0.cell? ⟨w.heap.size, 0, none⟩ = some (.slice A n c) := by rw [hw0]; simp [go_sem]
  rw [← hw0]
  clear hw0
  refine (Hd1.out w0 HB0.out).mono ?_
  rintro e w1 ⟨v1, rfl, hv1, B1⟩
  obtain ⟨A1, c1, rfl, _, hm1⟩ := hv1.val
  have Hv1 := Lib.hid hv1
  have a1 := below_cell B1 a0 hz
  have HB1 := Lib.hid (bot HB0.out B1)
  clear hv1 B1 a0
  go_wp2_with fail
  refine (Hd2.out w1 HB1.out).mono ?_
  rintro e w2 ⟨v2, rfl, hv2, B2⟩
  obtain ⟨A2, c2, rfl, hl2, _⟩ := hv2.val
  have HB2 := Lib.hid (bot HB1.out B2)
  have Hs := Lib.hid (same_yes _ _ _ _ _ _ D w2 _ _ (by unfold maxLen at hm1; omega) (Hv1.out.belowSize B2) hv2)
  clear hv2 B2 a1 Hv1
  generalize D.length = dl at *
  go_wp2_with fail
  refine Hs.out.mono ?_
  rintro e w3 ⟨rfl, k, rfl⟩
  have HB3 := Lib.hid (below_drewN HB2.out k)
  go_wp2_with fail
  refine (known_any _).mono ?_
  rintro e w4 ⟨rfl, B4⟩
  have HB4 := Lib.hid (bot HB3.out B4)
  clear B4
  go_wp2_with fail
  go_ret
  exact ⟨rfl, HB4.out⟩

/-- a drawing that is small enough for all that is done to it -/
def Sm (l : List Spot) : Prop := mayB l = true ∧ ∀ s ∈ l, s.path.length ≤ 257
theorem Sm.turn {l : List Spot} (h : Sm l) (q : Int) : Sm (l.map (turnF q)) := ⟨turnF_may h.1 q, fun s hs => by
  obtain ⟨r, hr, rfl⟩ := List.mem_map.1 hs
  exact h.2 r hr⟩
theorem Sm.draw {t : List Dir} (h : checkE t = 0) : Sm (drawS t) := ⟨drawS_may h, fun s hs => by
  have := drawS_small h hs
  omega⟩
theorem Sm.len {l : List Spot} (h : Sm l) : l.length * 40 ≤ 140737488351232 ∧ ∀ s ∈ l, s.path.length * 16 ≤ 140737488351232 := by
  have h1 := (mayB_far h.1).1
  exact ⟨by omega, fun s hs => by have := h.2 s hs; omega⟩
theorem turn_sm (A : Option Addr) (n c : Nat) (q : Int) (l : List Spot) (w : World) (hs : Sm l) (hq : I64 q) (hl : SlV rSpot w (fun _ => True) l (.slice A n c)) :
    Calls Tryz.prog 14 #[.slice A n c, .int .i64 q] w fun e w' => ∃ v, e = .returned (.tuple #[v, .int .i64 0]) ∧ SlV rSpot w' (fun _ => True) (l.map (turnF q)) v ∧ Below w.heap.size w w' := by
  refine (chTurn_any A n c q l w _ hs.len.1 hs.len.2 hq hl).mono ?_
  rintro e w' ⟨v, h1, h2, h3⟩
  have hr : turnR l q = some (l.map (turnF q)) := by unfold turnR; rw [if_pos hs.1]
  rw [hr] at h1 h2
  exact ⟨v, h1, h2, h3⟩
theorem twist_sm (A : Option Addr) (n c : Nat) (l : List Spot) (w : World) (hs : Sm l) (hl : SlV rSpot w (fun _ => True) l (.slice A n c)) :
    Calls Tryz.prog 16 #[.slice A n c, .int .i64 0, .int .i64 1] w fun e w' => ∃ v, e = .returned (.tuple #[v, .int .i64 0]) ∧ SlV rSpot w' (fun _ => True) (l.map (turnF 1)) v ∧ Below w.heap.size w w' := by
  refine (chTwist_any A n c 0 1 l w _ hs.len.1 hs.len.2 (by unfold I64; omega) (by unfold I64; omega) hl).mono ?_
  rintro e w' ⟨v, h1, h2, h3⟩
  have hr : twistR l 0 1 = some (l.map (turnF 1)) := by
    unfold twistR twistOk
    rw [hs.1, show smallB 0 1 = true from by decide]
    rw [show (turnF 1) = twistF 0 1 from funext turnF_one]
    rfl
  rw [hr] at h1 h2
  exact ⟨v, h1, h2, h3⟩

set_option maxHeartbeats 6400000 in
set_option maxRecDepth 100000 in
theorem chartTurns_any (A : Option Addr) (n c : Nat) (xs : List Dir) (p q : Int) (w : World) (ht : Tab w) (hx : SlV rDir w (fun b => b < w.heap.size) xs (.slice A n c)) (hlen : ∀ d ∈ xs, d.path.length * 32 ≤ 140737488355328) (hnb : xs.length ≤ 1048576) (hp : I64 p) (hq : I64 q) :
    Calls Tryz.prog 5 #[.agg #[.slice A n c], .int .i64 p, .int .i64 q] w fun e w' => e = .returned (.bool true) ∧ Below w.heap.size w w' := by
  have Hd : Hid (∀ r, I64 r → ∀ W, Below w.heap.size w W → Calls Tryz.prog 7 #[.agg #[.slice A n c], .int .i64 r] W fun e w' => ∃ v, e = .returned (.tuple #[v, .int .i64 (codeT (drawnR xs r))]) ∧ SlV rSpot w' (fun _ => True) ((drawnR xs r).getD []) v ∧ Below W.heap.size W w') := fun r hr W hW => draw_any A n c xs r W (tab_below ht hW) ((hx.belowSize hW).more fun b _ h => h) hlen hnb hr
  have Hp := Lib.hid hp; clear hp
  have Hq := Lib.hid hq; clear hq
  by_cases h : checkE xs = 0
  case neg =>
    have hr : ∀ r, drawnR xs r = none := fun r => by unfold drawnR; rw [if_neg h]
    have Hr := Lib.hid hr
    clear hr h hx hlen hnb ht
    go_enter Tryz.func5, Tryz.ntmps5
    go_wp2_with fail
    obtain ⟨w0, hw0⟩ : ∃ w0, w0 = w.alloc (.cells #[.slice A n c] 24) := ⟨_, rfl⟩
    have hz : w.heap.size < w0.heap.size := by rw [hw0]; simp [go_sem]
    have HB0 : Hid (Below w.heap.size w w0) := by unfold Hid; rw [hw0]; exact bal (Below.refl _ _) _
    have a0 : w0.cell? ⟨w.heap.size, 0, none⟩ = some (.slice A n c) := by rw [hw0]; simp [go_sem]
    rw [← hw0]
    clear hw0
    refine (known_any w0).mono ?_
    rintro e w1 ⟨rfl, B1⟩
    have a1 := below_cell B1 a0 hz
    have HB1 := Lib.hid (bot HB0.out B1)
    clear B1 a0
    go_wp2_with fail
    refine (Hd.out 0 (by unfold I64; omega) w1 HB1.out).mono ?_
    rintro e w2 ⟨v2, rfl, hv2, B2⟩
    have a2 := below_cell B2 a1 (cell_lt a1)
    have HB2 := Lib.hid (bot HB1.out B2)
    rw [Hr.out]
    clear hv2 B2 a1
    go_wp2_with fail
    refine (Hd.out p Hp.out w2 HB2.out).mono ?_
    rintro e w3 ⟨v3, rfl, hv3, B3⟩
    have HB3 := Lib.hid (bot HB2.out B3)
    rw [Hr.out]
    clear hv3 B3 a2
    simp only [codeT, Option.isSome_none, Bool.false_eq_true, if_false]
    go_wp2_with fail
    go_ret
    exact ⟨rfl, HB3.out⟩
  have hr : ∀ r, drawnR xs r = some ((drawS xs).map (turnF r)) := fun r => by unfold drawnR; rw [if_pos h]
  have hD : Sm (drawS xs) := Sm.draw h
  have h00 : (drawS xs).map (turnF 0) = drawS xs := by
    rw [show turnF 0 = id from funext turnF_zero, List.map_id]
  have h44 : (drawS xs).map (turnF 4) = drawS xs := by
    rw [show turnF 4 = id from funext turnF_four, List.map_id]
  have hpq : ((drawS xs).map (turnF p)).map (turnF q) = (drawS xs).map (turnF (p.tmod 4 + q.tmod 4)) := by
    rw [List.map_map]
    exact congrArg (fun f => (drawS xs).map f) (funext fun s => turnF_add p q s)
  have Hd0 : Hid (∀ W, Below w.heap.size w W → Calls Tryz.prog 7 #[.agg #[.slice A n c], .int .i64 0] W fun e w' => ∃ v, e = .returned (.tuple #[v, .int .i64 0]) ∧ SlV rSpot w' (fun _ => True) (drawS xs) v ∧ Below W.heap.size W w') := fun W hW => by
    have := Hd.out 0 (by unfold I64; omega) W hW
    rw [hr 0, h00] at this
    exact this
  have Hdp : Hid (∀ W, Below w.heap.size w W → Calls Tryz.prog 7 #[.agg #[.slice A n c], .int .i64 p] W fun e w' => ∃ v, e = .returned (.tuple #[v, .int .i64 0]) ∧ SlV rSpot w' (fun _ => True) ((drawS xs).map (turnF p)) v ∧ Below W.heap.size W w') := fun W hW => by
    have := Hd.out p Hp.out W hW
    rw [hr p] at this
    exact this
  clear Hd hr h h00 hx hlen hnb ht
  generalize drawS xs = D at *
  have hm := tmod4 p
  have hm' := tmod4 q
  have HS := Lib.hid hD
  have HSp := Lib.hid (hD.turn p)
  have Hpq := Lib.hid hpq
  have H44 := Lib.hid h44
  have hlp : (D.map (turnF p)).length = D.length := List.length_map _
  have hl63 : D.length ≤ 257 := (mayB_far hD.1).1
  clear hD hpq h44
  obtain ⟨dl, hdl⟩ : ∃ dl, dl = D.length := ⟨_, rfl⟩
  have Hdl := Lib.hid hdl
  rw [← hdl] at hlp hl63
  clear hdl
  have hws : IntKind.i64.wrap (p.tmod 4 + q.tmod 4) = p.tmod 4 + q.tmod 4 := wrap_small (by rw [show (2 : Nat) ^ 53 = 9007199254740992 from by decide]; omega)
  go_enter Tryz.func5, Tryz.ntmps5
  go_wp2_with fail
  obtain ⟨w0, hw0⟩ : ∃ w0, w0 = w.alloc (.cells #[.slice A n c] 24) := ⟨_, rfl⟩
  have hz : w.heap.size < w0.heap.size := by rw [hw0]; simp [go_sem]
  have HB0 : Hid (Below w.heap.size w w0) := by unfold Hid; rw [hw0]; exact bal (Below.refl _ _) _
  have a0 : w0.cell? ⟨w.heap.size, 0, none⟩ = some (.slice A n c) := by rw [hw0]; simp [go_sem]
  rw [← hw0]
  clear hw0
  refine (known_any w0).mono ?_
  rintro e w1 ⟨rfl, B1⟩
  have a1 := below_cell B1 a0 hz
  have HB1 := Lib.hid (bot HB0.out B1)
  clear B1 a0 HB0
  go_wp2_with fail
  refine (Hd0.out w1 HB1.out).mono ?_
  rintro e w2 ⟨v2, rfl, hv2, B2⟩
  obtain ⟨A2, c2, hve, _, _⟩ := hv2.val
  rw [← Hdl.out] at hve
  have a2 := below_cell B2 a1 (cell_lt a1)
  have HB2 := Lib.hid (bot HB1.out B2)
  have HL2 := Lib.hid hv2
  rw [hve] at HL2
  subst hve
  clear hv2 B2 a1 HB1
  go_wp2_with fail
  refine (Hdp.out w2 HB2.out).mono ?_
  rintro e w3 ⟨v3, rfl, hv3, B3⟩
  obtain ⟨A3, c3, hve, _, _⟩ := hv3.val
  rw [hlp] at hve
  have HB3 := Lib.hid (bot HB2.out B3)
  have HL3 := Lib.hid (HL2.out.belowSize B3)
  have HM3 := Lib.hid hv3
  rw [hve] at HM3
  subst hve
  clear hv3 B3 a2 HB2 HL2 Hd0 Hdp
  go_wp2_with fail
  refine (turn_sm _ _ _ p D w3 HS.out Hp.out HL3.out).mono ?_
  rintro e w4 ⟨v4, rfl, hv4, B4⟩
  obtain ⟨A4, c4, hve, _, _⟩ := hv4.val
  rw [hlp] at hve
  have HB4 := Lib.hid (bot HB3.out B4)
  have HL4 := Lib.hid (HL3.out.belowSize B4)
  have HA4 := Lib.hid hv4
  rw [hve] at HA4
  have Hk := Lib.hid (alike_yes _ _ _ _ _ _ _ w4 _ _ (by omega) HA4.out (HM3.out.belowSize B4))
  subst hve
  clear hv4 B4 HB3 HL3 HM3
  go_wp2_with fail
  refine Hk.out.mono ?_
  rintro e w5 ⟨rfl, k, rfl⟩
  have HB5 := Lib.hid (below_drewN HB4.out k)
  have HL5 := Lib.hid (HL4.out.drewN k)
  have HA5 := Lib.hid (HA4.out.drewN k)
  clear HB4 HL4 HA4 Hk
  generalize w4.drewN k = w5 at *
  go_wp2_with fail
  refine (turn_sm _ _ _ q _ w5 HSp.out Hq.out HA5.out).mono ?_
  rintro e w6 ⟨v6, rfl, hv6, B6⟩
  obtain ⟨A6, c6, hve, _, _⟩ := hv6.val
  rw [List.length_map, hlp] at hve
  have HB6 := Lib.hid (bot HB5.out B6)
  have HL6 := Lib.hid (HL5.out.belowSize B6)
  have HP6 := Lib.hid hv6
  rw [hve, Hpq.out] at HP6
  subst hve
  clear hv6 B6 HB5 HL5 HA5
  go_wp2_with fail
  refine (turn_sm _ _ _ (p.tmod 4 + q.tmod 4) D w6 HS.out (by unfold I64; omega) HL6.out).mono ?_
  rintro e w7 ⟨v7, rfl, hv7, B7⟩
  obtain ⟨A7, c7, hve, _, _⟩ := hv7.val
  rw [List.length_map, ← Hdl.out] at hve
  have HB7 := Lib.hid (bot HB6.out B7)
  have HL7 := Lib.hid (HL6.out.belowSize B7)
  have HP7 := Lib.hid (HP6.out.belowSize B7)
  have HC7 := Lib.hid hv7
  rw [hve] at HC7
  subst hve
  clear hv7 B7 HB6 HL6 HP6
  go_wp2_with fail
  refine (turn_sm _ _ _ 4 D w7 HS.out (by unfold I64; omega) HL7.out).mono ?_
  rintro e w8 ⟨v8, rfl, hv8, B8⟩
  obtain ⟨A8, c8, hve, _, _⟩ := hv8.val
  rw [List.length_map, ← Hdl.out] at hve
  have HB8 := Lib.hid (bot HB7.out B8)
  have HL8 := Lib.hid (HL7.out.belowSize B8)
  have HP8 := Lib.hid (HP7.out.belowSize B8)
  have HC8 := Lib.hid (HC7.out.belowSize B8)
  have HD8 := Lib.hid hv8
  rw [hve, H44.out] at HD8
  subst hve
  clear hv8 B8 HB7 HL7 HP7 HC7
  go_wp2_with fail
  refine (twist_sm _ _ _ D w8 HS.out HL8.out).mono ?_
  rintro e w9 ⟨v9, rfl, hv9, B9⟩
  obtain ⟨A9, c9, hve, _, _⟩ := hv9.val
  rw [List.length_map, ← Hdl.out] at hve
  have HB9 := Lib.hid (bot HB8.out B9)
  have HL9 := Lib.hid (HL8.out.belowSize B9)
  have HP9 := Lib.hid (HP8.out.belowSize B9)
  have HC9 := Lib.hid (HC8.out.belowSize B9)
  have HD9 := Lib.hid (HD8.out.belowSize B9)
  have HN9 := Lib.hid hv9
  rw [hve] at HN9
  subst hve
  clear hv9 B9 HB8 HL8 HP8 HC8 HD8
  go_wp2_with fail
  refine (turn_sm _ _ _ 1 D w9 HS.out (by unfold I64; omega) HL9.out).mono ?_
  rintro e wa ⟨va, rfl, hva, Ba⟩
  obtain ⟨Aa, ca, hve, _, _⟩ := hva.val
  rw [List.length_map, ← Hdl.out] at hve
  have HBa := Lib.hid (bot HB9.out Ba)
  have HLa := Lib.hid (HL9.out.belowSize Ba)
  have HPa := Lib.hid (HP9.out.belowSize Ba)
  have HCa := Lib.hid (HC9.out.belowSize Ba)
  have HDa := Lib.hid (HD9.out.belowSize Ba)
  have HNa := Lib.hid (HN9.out.belowSize Ba)
  have HOa := Lib.hid hva
  rw [hve] at HOa
  subst hve
  clear hva Ba HB9 HL9 HP9 HC9 HD9 HN9
  have K1 := Lib.hid (alike_yes _ _ _ _ _ _ _ wa _ _ (by omega) HPa.out HCa.out)
  have K2 := Lib.hid (fun k => alike_yes _ _ _ _ _ _ _ (wa.drewN k) _ _ (by omega) (HDa.out.drewN k) (HLa.out.drewN k))
  have K3 := Lib.hid (fun k => alike_yes _ _ _ _ _ _ _ (wa.drewN k) _ _ (by omega) (HNa.out.drewN k) (HOa.out.drewN k))
  clear HPa HCa HDa HLa HNa HOa
  go_wp2_with fail
  refine K1.out.mono ?_
  rintro e wb ⟨rfl, k1, rfl⟩
  go_wp2_with fail
  refine (K2.out k1).mono ?_
  rintro e wd ⟨rfl, k2, rfl⟩
  go_wp2_with fail
  refine (K3.out _).mono ?_
  rintro e wf ⟨rfl, k3, rfl⟩
  go_wp2_with fail
  go_ret
  exact ⟨rfl, below_drewN HBa.out _⟩
end Go.Proofs.YtkpbnbnfgadkcaaGreatDoor
