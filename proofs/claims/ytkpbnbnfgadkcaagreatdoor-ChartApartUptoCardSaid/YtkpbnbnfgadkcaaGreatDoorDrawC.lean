/-
  A tree drawn, by the program and by the document.
-/
import Derived.Test.YtkpbnbnfgadkcaaGreatDoorDrawB
set_option autoImplicit false
set_option relaxedAutoImplicit false
set_option linter.unusedVariables false
set_option linter.unusedSimpArgs false
namespace Go.Proofs.YtkpbnbnfgadkcaaGreatDoor
open Go.Rows Go.RowKit Go.Shelf Go.Sort
attribute [local go_sem] run_store_float run_store_complex

set_option maxHeartbeats 3200000 in
set_option maxRecDepth 100000 in
theorem draw_any (A : Option Addr) (n c : Nat) (xs : List Dir) (q : Int) (w : World) (ht : Tab w) (hx : SlV rDir w (fun b => b < w.heap.size) xs (.slice A n c)) (hlen : ∀ d ∈ xs, d.path.length * 32 ≤ 140737488355328) (hnb : xs.length ≤ 1048576) (hq : I64 q) :
    Calls Tryz.prog 7 #[.agg #[.slice A n c], .int .i64 q] w (DrawnT w (drawnR xs q)) := by
  have Hck : Hid (∀ W, Below w.heap.size w W → Calls Tryz.prog 19 #[.agg #[.slice A n c]] W fun e w' => e = .returned (.int .i64 (checkE xs)) ∧ Below W.heap.size W w') := fun W hW => check_any A n c xs W _ (tab_below ht hW) hlen (hx.belowSize hW)
  have Htn : Hid (∀ W, Calls Tryz.prog 20 #[.int .i64 q] W fun e w' => ∃ re im, e = .returned (.complex .f64 re im) ∧ Flt re (quart (quarters q).toNat).1 ∧ Flt im (quart (quarters q).toNat).2 ∧ W = w') := fun W => turn_any q hq W
  by_cases h : checkE xs = 0
  case neg =>
    have Hr : Hid (drawnR xs q = none) := by unfold Hid drawnR; rw [if_neg h]
    rw [Hr.out]
    obtain ⟨E, hE⟩ : ∃ E, E = checkE xs := ⟨_, rfl⟩
    rw [← hE] at Hck h
    clear hE
    have hEb : (E != 0) = true := by simp [h]
    clear h hx hlen hnb ht Hr
    go_enter Tryz.func7, Tryz.ntmps7
    go_wp2_with fail
    obtain ⟨w0, hw0⟩ : ∃ w0, w0 = w.alloc (.cells #[.slice A n c] 24) := ⟨_, rfl⟩
    have HB0 : Hid (Below w.heap.size w w0) := by unfold Hid; rw [hw0]; exact bal (Below.refl _ _) _
    rw [← hw0]
    clear hw0
    refine (Hck.out w0 HB0.out).mono ?_
    rintro e w1 ⟨rfl, B1⟩
    go_wp2_with fail
    go_ret2
    exact ⟨_, rfl, SlV.nil_ _ _ _, bot HB0.out B1⟩
  obtain ⟨h0, h1⟩ := check_len h
  obtain ⟨s1, s2⟩ := quart_small (quarters q).toNat
  have Hr : Hid (drawnR xs q = some ((drawF xs xs.length 0 0).map (fun e => twistF (quart (quarters q).toNat).1 (quart (quarters q).toNat).2 (spF xs e)))) := by
    unfold Hid drawnR drawS
    rw [if_pos h, List.map_map]; rfl
  rw [Hr.out]
  have HD := Lib.hid (fun (W : World) (tb ob bb db base re im : Nat) (v : Value) (hC : Caps w tb ob bb db base) (hre : Flt re (quart (quarters q).toNat).1) (him : Flt im (quart (quarters q).toNat).2) (hW : DrawW w W tb ob bb db base A n c re im v []) =>
    draw1_any xs h hlen hnb w tb ob bb db base hC A n c re im hx _ _ hre him s1 s2 xs.length 0 0 0 0 W v [] hW h0 (by omega) (by have := rows_le h h0; omega) (by rw [draw_length h h0]; simp; omega) (by rw [dep_at h0, root_of h h0]; exact flt_zero) flt_zero)
  generalize (quart (quarters q).toNat).1 = u at *
  generalize (quart (quarters q).toNat).2 = t at *
  generalize (drawF xs xs.length 0 0).map (fun e => twistF u t (spF xs e)) = D at *
  obtain ⟨E, hE⟩ : ∃ E, E = checkE xs := ⟨_, rfl⟩
  rw [← hE] at Hck h
  clear hE
  have hEb : (E != 0) = false := by simp [h]
  clear h hx hlen hnb ht Hr h0 h1 s1 s2 hq
  go_enter Tryz.func7, Tryz.ntmps7
  go_wp2_with fail
  obtain ⟨w0, hw0⟩ : ∃ w0, w0 = w.alloc (.cells #[.slice A n c] 24) := ⟨_, rfl⟩
  have hz : w.heap.size < w0.heap.size := by rw [hw0]; simp [go_sem]
  have HB0 : Hid (Below w.heap.size w w0) := by unfold Hid; rw [hw0]; exact bal (Below.refl _ _) _
  have a0 : w0.cell? ⟨w.heap.size, 0, none⟩ = some (.slice A n c) := by rw [hw0]; simp [go_sem]
  rw [← hw0]
  clear hw0
  have HA0 := Lib.hid a0
  refine (Hck.out w0 HB0.out).mono ?_
  rintro e w1 ⟨rfl, B1⟩
  have a1 := below_cell B1 a0 hz
  have HB1 := Lib.hid (bot HB0.out B1)
  have HA1 := Lib.hid a1
  have hz1 : w.heap.size < w1.heap.size := cell_lt a1
  clear a0 a1 B1 Hck HB0 HA0 hz
  go_wp2_with fail
  refine (Htn.out _).mono ?_
  rintro e w2 ⟨re, im, rfl, hre, him, rfl⟩
  have Hre := Lib.hid hre; clear hre
  have Him := Lib.hid him; clear him
  have hE := fun args W => enters_draw1 args W
  have hst := fun (W : World) (a : Addr) (m : Mode) (f : FuncId) (x y : Array Value) => run_store Tryz.prog W a (.func (.func f) x y) m rfl
  go_wp2_with fail
  have hC : Caps w w.heap.size (w1.heap.size + 1) w1.heap.size (w1.heap.size + 1 + 1) (w1.heap.size + 3) := ⟨by omega, by omega, by omega, by omega, by omega, by omega, by omega, by omega, by omega⟩
  refine (HD.out _ w.heap.size (w1.heap.size + 1) w1.heap.size (w1.heap.size + 1 + 1) (w1.heap.size + 3) re im (.slice none 0 0) hC Hre.out Him.out ?_).mono ?_
  · refine ⟨?_, by simp [go_sem], by simp [go_sem], by simp [go_sem], by simp [go_sem], ⟨fun _ => False, fun b hb => hb.elim, Own.nil_ _ _ _ _ (fun b hb => hb.elim)⟩, bal (bal (bal HB1.out _) _) _, by simp [go_sem]⟩
    have h1 := HA1.out
    have e1 := (cell_same (Below.heap_alloc w1 (.cells #[.complex .f64 re im] 59) w.heap.size hz1) 0 none).trans h1
    have e2 := (cell_same (Below.heap_alloc _ (.cells #[.slice none 0 0] 25) w.heap.size (cell_lt e1)) 0 none).trans e1
    exact (cell_same (Below.heap_alloc _ _ w.heap.size (cell_lt e2)) 0 none).trans e2
  rintro e w5 ⟨rr, ri, rfl, H5⟩
  obtain ⟨_, _, v5, hW5, _⟩ := H5.out
  have o5 := hW5.oc
  have HW5 := Lib.hid hW5
  clear hW5 H5 hC HA1 HB1 HD hz1
  obtain ⟨S5, _, ho5⟩ := HW5.out.own
  have HS5 := Lib.hid ho5.slv
  have HB5 := Lib.hid HW5.out.bel
  clear HW5 ho5
  go_wp2_with fail
  go_ret2
  exact ⟨_, rfl, HS5.out.more (fun _ _ _ => trivial), HB5.out⟩

set_option maxHeartbeats 3200000 in
set_option maxRecDepth 100000 in
theorem refDraw_any (A : Option Addr) (n c : Nat) (xs : List Dir) (q : Int) (w : World) (hx : SlV rDir w (fun b => b < w.heap.size) xs (.slice A n c)) (hlen : ∀ d ∈ xs, d.path.length * 32 ≤ 140737488355328) (hnb : xs.length ≤ 1048576) (hq : I64 q) :
    Calls Tryz.prog 8 #[.agg #[.slice A n c], .int .i64 q] w (DrawnT w (drawnR xs q)) := by
  have Hck : Hid (∀ W, Below w.heap.size w W → Calls Tryz.prog 11 #[.agg #[.slice A n c]] W fun e w' => e = .returned (.int .i64 (checkE xs)) ∧ Below W.heap.size W w') := fun W hW => refCheck_any A n c xs W _ hlen (hx.belowSize hW)
  by_cases h : checkE xs = 0
  case neg =>
    have Hr : Hid (drawnR xs q = none) := by unfold Hid drawnR; rw [if_neg h]
    rw [Hr.out]
    obtain ⟨E, hE⟩ : ∃ E, E = checkE xs := ⟨_, rfl⟩
    rw [← hE] at Hck h
    clear hE
    have hEb : (E != 0) = true := by simp [h]
    clear h hx hlen hnb Hr
    go_enter Tryz.func8, Tryz.ntmps8
    go_wp2_with fail
    obtain ⟨w0, hw0⟩ : ∃ w0, w0 = w.alloc (.cells #[.slice A n c] 24) := ⟨_, rfl⟩
    have HB0 : Hid (Below w.heap.size w w0) := by unfold Hid; rw [hw0]; exact bal (Below.refl _ _) _
    rw [← hw0]
    clear hw0
    refine (Hck.out w0 HB0.out).mono ?_
    rintro e w1 ⟨rfl, B1⟩
    go_wp2_with fail
    go_ret2
    exact ⟨_, rfl, SlV.nil_ _ _ _, bot HB0.out B1⟩
  obtain ⟨h0, h1⟩ := check_len h
  have Hr : Hid (drawnR xs q = some ((drawS xs).map (turnF q))) := by unfold Hid drawnR; rw [if_pos h]
  rw [Hr.out]
  have Hdr : Hid (∀ W, Below w.heap.size w W → Calls Tryz.prog 25 #[.agg #[.slice A n c], .int .i64 0, .int .i64 0] W fun e w' => (∃ v, e = .returned v ∧ SlV rSpot w' (fun b => b < w'.heap.size) (drawS xs) v) ∧ Below W.heap.size W w') := fun W hW => by
    refine (drawn_any xs h hlen hnb xs.length A n c 0 0 W _ (hx.belowSize hW) h0 (by omega) (by have := rows_le h h0; omega)).mono ?_
    rintro e w' ⟨⟨v, rfl, hv⟩, hb⟩
    exact ⟨⟨v, rfl, hv.more fun b _ hl => hl⟩, hb⟩
  have hfar := drawS_far h
  have hdl : (drawS xs).length ≤ 257 := by rw [drawS_length h]; exact h1
  generalize drawS xs = D at *
  have Htd : Hid (∀ W v A n c, v = .slice A n c → SlV rSpot W (fun b => b < W.heap.size) D v → Calls Tryz.prog 24 #[.slice A n c, .int .i64 q] W fun e w' => ∃ v, e = .returned v ∧ SlV rSpot w' (fun b => b < W.heap.size ∨ W.heap.size ≤ b) (D.map (turnF q)) v ∧ Below W.heap.size W w') := fun W v A n c hv hs => by
    subst hv
    exact turned_any A n c q D W _ (by omega) hq hfar hs
  obtain ⟨E, hE⟩ : ∃ E, E = checkE xs := ⟨_, rfl⟩
  rw [← hE] at Hck h
  clear hE
  have hEb : (E != 0) = false := by simp [h]
  clear h hx hlen hnb Hr h0 h1 hq hfar
  go_enter Tryz.func8, Tryz.ntmps8
  go_wp2_with fail
  obtain ⟨w0, hw0⟩ : ∃ w0, w0 = w.alloc (.cells #[.slice A n c] 24) := ⟨_, rfl⟩
  have hz : w.heap.size < w0.heap.size := by rw [hw0]; simp [go_sem]
  have HB0 : Hid (Below w.heap.size w w0) := by unfold Hid; rw [hw0]; exact bal (Below.refl _ _) _
  have a0 : w0.cell? ⟨w.heap.size, 0, none⟩ = some (.slice A n c) := by rw [hw0]; simp [go_sem]
  rw [← hw0]
  clear hw0
  refine (Hck.out w0 HB0.out).mono ?_
  rintro e w1 ⟨rfl, B1⟩
  have a1 := below_cell B1 a0 hz
  have HB1 := Lib.hid (bot HB0.out B1)
  clear a0 B1 Hck HB0 hz
  go_wp2_with fail
  refine (Hdr.out w1 HB1.out).mono ?_
  rintro e w2 ⟨⟨v, rfl, hv⟩, B2⟩
  obtain ⟨vA, vc, hve, _, _⟩ := hv.val
  have HT := Lib.hid (Htd.out w2 v _ _ _ hve hv)
  have HB2 := Lib.hid (bot HB1.out B2)
  subst hve
  clear hv B2 a1 HB1 Hdr Htd
  go_wp2_with fail
  refine HT.out.mono ?_
  rintro e w3 ⟨v3, rfl, hv3, B3⟩
  have HV3 := Lib.hid hv3
  have HB3 := Lib.hid (bot HB2.out B3)
  clear hv3 B3
  go_wp2_with fail
  go_ret2
  exact ⟨_, rfl, HV3.out.more (fun _ _ _ => trivial), HB3.out⟩
end Go.Proofs.YtkpbnbnfgadkcaaGreatDoor
