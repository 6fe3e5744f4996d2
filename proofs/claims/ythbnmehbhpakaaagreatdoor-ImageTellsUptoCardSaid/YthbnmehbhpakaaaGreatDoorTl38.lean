/-
  The document's May of a lock, walked.
-/
import Derived.Test.YthbnmehbhpakaaaGreatDoorTl27
set_option autoImplicit false
set_option relaxedAutoImplicit false
set_option linter.unusedVariables false
set_option linter.unusedSimpArgs false
namespace Go.Proofs.YthbnmehbhpakaaaGreatDoor
open Go.Rows Go.RowKit Go.Shelf Go.Sort

set_option maxHeartbeats 6400000 in
set_option maxRecDepth 100000 in
theorem refLockMay_any (A : Option Addr) (n c : Nat) (l : List Node) (w : World) (S : Nat → Prop) (hl : SlV rNode w S l (.slice A n c)) (hz : NodesZ l) :
    Calls Tryz.prog 86 #[.agg #[.slice A n c]] w fun e w' => e = .returned (.bool (lockB l)) ∧ Below w.heap.size w w' := by
  have hn := hl.n_eq
  have hcn := hl.cap_le
  unfold maxLen at hcn
  have HL := Lib.hid hl
  have Hn := Lib.hid hn
  have Hz := Lib.hid hz
  have hnz : n ≤ 1048576 := by have := hz.1; omega
  have HR : Hid (lockB l = ((decide (1 ≤ n) && decide (n ≤ 128)) && lockGo n 0 (l.drop 0))) := by unfold Hid lockB; rw [hn]; rfl
  clear hl hn hz
  generalize lockB l = R at *
  obtain ⟨w0, hw0⟩ : ∃ w0, w0 = w.alloc (.cells #[.slice A n c] 27) := ⟨_, rfl⟩
  have HB0 : Hid (Below w.heap.size w w0) := by unfold Hid; rw [hw0]; exact bal (Below.refl _ _) _
  have HQ0 : Hid (w0.heap[w.heap.size]? = some (.cells #[.slice A n c] 27 (0, 0))) := by unfold Hid; rw [hw0]; exact heap_new _ _
  have hq0 : w.heap.size < w0.heap.size := (Array.getElem?_eq_some_iff.1 HQ0.out).1
  have p0 : w0.cell? ⟨w.heap.size, 0, none⟩ = some (.slice A n c) := cell_of_row w0 _ 0 _ _ _ HQ0.out
  by_cases h1 : 1 ≤ n
  case neg =>
    have h1I : (n : Int) < 1 := by omega
    have Hr : Hid (R = false) := by unfold Hid; rw [HR.out, decide_eq_false h1]; rfl
    clear HR
    go_enter Tryz.func86, Tryz.ntmps86
    go_wp2_with fail
    try rw [← hw0]
    go_ret
    exact ⟨ret_bL Hr.out.symm, by first | exact HB0.out | exact bal (Below.refl _ _) _⟩
  by_cases h2 : n ≤ 128
  case neg =>
    have h1I : ¬ (n : Int) < 1 := by omega
    have h2I : (128 : Int) < (n : Int) := by omega
    have Hr : Hid (R = false) := by unfold Hid; rw [HR.out, decide_eq_false h2]; simp
    clear HR
    go_enter Tryz.func86, Tryz.ntmps86
    go_wp2_with fail
    go_ret
    exact ⟨ret_bL Hr.out.symm, by first | exact HB0.out | exact bal (Below.refl _ _) _⟩
  have h1I : ¬ (n : Int) < 1 := by omega
  have h2I : ¬ (128 : Int) < (n : Int) := by omega
  have HR2 : Hid (R = lockGo n 0 (l.drop 0)) := by unfold Hid; rw [HR.out, decide_eq_true h1, decide_eq_true h2]; rfl
  clear HR
  go_enter Tryz.func86, Tryz.ntmps86
  go_wp2_with fail
  rw [← hw0]
  clear hw0
  go_loopw [4] (fun i wr => ∃ k : Nat, k ≤ n ∧ i = .int .i64 k ∧ Hid (R = lockGo n k (l.drop k)) ∧ Hid (Below w0.heap.size w0 wr)) (fun i _ => n - (intOf i).toNat)
  case atStart => exact ⟨0, Nat.zero_le _, rfl, HR2, Below.refl _ _⟩
  case round =>
    clear HR2 p0
    obtain ⟨k, hk, rfl, HR, HB⟩ := hrel
    have HQr : Hid (wr.heap[w.heap.size]? = some (.cells #[.slice A n c] 27 (0, 0))) := (HB.out.block _ hq0).trans HQ0.out
    have p0 : wr.cell? ⟨w.heap.size, 0, none⟩ = some (.slice A n c) := cell_of_row wr _ 0 _ _ _ HQr.out
    by_cases hlt : k < n
    case neg =>
      obtain rfl : k = n := by omega
      have hI : ¬ (k : Int) < (k : Int) := by omega
      have Hr : Hid (R = true) := by unfold Hid; rw [HR.out, lockGo_done (by rw [← Hn.out]; exact Nat.le_refl _)]
      clear HR
      go_wp2_with fail
      go_ret
      exact ⟨ret_bL Hr.out.symm, bot HB0.out HB.out⟩
    have hkI : (k : Int) < (n : Int) := by omega
    have hk0 : (0 : Int) ≤ (k : Int) := by omega
    have hkl : k < l.length := by rw [← Hn.out]; exact hlt
    obtain ⟨x, hx⟩ : ∃ x, l[k]? = some x := ⟨_, List.getElem?_eq_getElem hkl⟩
    have h3 := HR.out
    rw [lockGo_step hx] at h3
    have HR3 := Lib.hid h3
    obtain ⟨hz1, hz2⟩ := Hz.out.2 x (List.mem_of_getElem? hx)
    obtain ⟨b, o, pA, pn, pc, eA, en, ec, rfl, hb, hnm, hp, he, hpn, hen, c0, c1, c2, c3, c4, c5⟩ := node_elem (HL.out.belowSize (bot HB0.out HB.out)) hx
    have HNm : Hid (∀ W, Calls Tryz.prog 88 #[.string x.name] W fun e w' => e = .returned (.bool (nameB x.name)) ∧ Below W.heap.size W w') := fun W => (refName_any x.name hnm W).mono fun e w' ⟨he, hw⟩ => ⟨he, hw ▸ Below.refl _ _⟩
    have HV : Hid (∀ W, Calls Tryz.prog 152 #[.agg #[.int .i64 x.ver.major, .int .i64 x.ver.minor, .int .i64 x.ver.patch]] W fun e w' => e = .returned (.bool (verOk x.ver)) ∧ Below W.heap.size W w') := fun W => refVerMay_any _ _ _ W
    obtain ⟨w4, hw4⟩ : ∃ w4, w4 = wr.alloc (.cells #[.string x.name, .int .i64 x.ver.major, .int .i64 x.ver.minor, .int .i64 x.ver.patch, .slice pA pn pc, .slice eA en ec] 63) := ⟨_, rfl⟩
    have hq4 : w4.heap[wr.heap.size]? = some (.cells #[.string x.name, .int .i64 x.ver.major, .int .i64 x.ver.minor, .int .i64 x.ver.patch, .slice pA pn pc, .slice eA en ec] 63 (0, 0)) := by rw [hw4]; exact heap_new _ _
    have HB4 : Hid (Below wr.heap.size wr w4) := by unfold Hid; rw [hw4]; exact bal (Below.refl _ _) _
    have hsr : w.heap.size < wr.heap.size := Nat.lt_of_lt_of_le hq0 HB.out.size
    have hs4 := (Array.getElem?_eq_some_iff.1 hq4).1
    have hcell : ∀ W, Below w4.heap.size w4 W → (W.cell? ⟨wr.heap.size, 0, none⟩ = some (.string x.name) ∧ W.cell? ⟨wr.heap.size, 1, none⟩ = some (.int .i64 x.ver.major) ∧ W.cell? ⟨wr.heap.size, 2, none⟩ = some (.int .i64 x.ver.minor) ∧ W.cell? ⟨wr.heap.size, 3, none⟩ = some (.int .i64 x.ver.patch) ∧ W.cell? ⟨wr.heap.size, 4, none⟩ = some (.slice pA pn pc) ∧ W.cell? ⟨wr.heap.size, 5, none⟩ = some (.slice eA en ec)) ∧ W.cell? ⟨w.heap.size, 0, none⟩ = some (.slice (some ⟨b, o, none⟩) n c) := fun W hW => by
      have hX := (hW.block _ hs4).trans hq4
      exact ⟨⟨cell_of_row _ _ 0 _ _ _ hX, cell_of_row _ _ 1 _ _ _ hX, cell_of_row _ _ 2 _ _ _ hX, cell_of_row _ _ 3 _ _ _ hX, cell_of_row _ _ 4 _ _ _ hX, cell_of_row _ _ 5 _ _ _ hX⟩, below_cell (bot HB4.out hW) p0 hsr⟩
    have Hcell0 := Lib.hid hcell
    have HP0 : Hid (∀ W, Below w4.heap.size w4 W → Calls Tryz.prog 153 #[.slice pA pn pc] W fun e w' => e = .returned (.bool (risesB (pinNames x.ctx) && pinsOk x.ctx)) ∧ Below W.heap.size W w') := fun W hW => refPins07_any pA pn pc x.ctx W S (hp.belowSize (bot HB4.out hW))
    have HE0 : Hid (∀ W, Below w4.heap.size w4 W → Calls Tryz.prog 154 #[.slice eA en ec, .int .i64 (n : Int)] W fun e w' => e = .returned (.bool (risesB (edgeNames x.edges) && edgesOk n x.edges)) ∧ Below W.heap.size W w') := fun W hW => refEdges07_any eA en ec x.edges n (by omega) W S (he.belowSize (bot HB4.out hW))
    have Hnd : Hid (nodeOk n x = (((risesB (pinNames x.ctx) && risesB (edgeNames x.edges)) && pinsOk x.ctx) && edgesOk n x.edges)) := rfl
    have Hpn := Lib.hid hpn
    have Hhd : Hid (headOk k x = if k = 0 then (x.name.toList == []) && (zeroV x.ver && decide (x.ctx.length = 0)) else nameB x.name && verOk x.ver) := rfl
    have Hzv : Hid (zeroV x.ver = (decide (x.ver.major = 0) && (decide (x.ver.minor = 0) && decide (x.ver.patch = 0)))) := rfl
    have HB5 : Hid (Below w4.heap.size w4 w4) := Below.refl _ _
    obtain ⟨⟨x0, x1, x2, x3, x4, x5⟩, y0⟩ := hcell w4 (Below.refl _ _)
    clear hx h3 HR hp he hpn hen hz1 hz2 hcell hq4 hs4 hnm
    generalize risesB (pinNames x.ctx) = p1 at *
    generalize risesB (edgeNames x.edges) = e1 at *
    generalize pinsOk x.ctx = p2 at *
    generalize edgesOk n x.edges = e2 at *
    generalize x.name = nm at *
    generalize x.ver.major = v1 at *
    generalize x.ver.minor = v2 at *
    generalize x.ver.patch = v3 at *
    generalize verOk x.ver = vo at *
    generalize nameB nm = no at *
    have Hcell := Hcell0
    have HP := HP0
    have HE := HE0
    have HBr := Lib.hid (bot HB.out HB4.out)
    go_upto_region 8 with (fail)
    rw [← hw4]
    clear hw4 c0 c1 c2 c3 c4 c5
    by_cases hk00 : k = 0
    · subst hk00
      rw [if_pos rfl] at Hhd
      clear HNm HV
      cases hnb : (nm.toList == []) with
      | false =>
        have Hr : Hid (R = false) := by unfold Hid; rw [HR3.out, Hhd.out, hnb]; rfl
        clear HR3 Hhd
        go_wp2_with fail
        go_ret
        exact ⟨ret_bL Hr.out.symm, bot HB0.out (bot HBr.out HB5.out)⟩
      | true =>
      by_cases hv : v1 = 0 ∧ v2 = 0 ∧ v3 = 0
      case neg =>
        have Hr : Hid (R = false) := by
          unfold Hid
          rw [HR3.out, Hhd.out, Hzv.out, hnb]
          by_cases e1 : v1 = 0 <;> by_cases e2 : v2 = 0 <;> by_cases e3 : v3 = 0 <;> simp_all
        clear HR3 Hhd
        go_wp2_with fail
        all_goals first
          | (exfalso; apply hv; refine ⟨?_, ?_, ?_⟩ <;> assumption)
          | (go_ret; exact ⟨ret_bL Hr.out.symm, bot HB0.out (bot HBr.out HB5.out)⟩)
      obtain ⟨rfl, rfl, rfl⟩ := hv
      by_cases hp0 : pn = 0
      case neg =>
        have hpb : (0 : Int) < (pn : Int) := by omega
        have Hr : Hid (R = false) := by unfold Hid; rw [HR3.out, Hhd.out, decide_eq_false (by rw [← Hpn.out]; exact hp0)]; simp
        clear HR3 Hhd
        go_wp2_with fail
        go_ret
        exact ⟨ret_bL Hr.out.symm, bot HB0.out (bot HBr.out HB5.out)⟩
      have hpb : ¬ (0 : Int) < (pn : Int) := by omega
      have Hh1 : Hid (headOk 0 x = true) := by unfold Hid; rw [Hhd.out, Hzv.out, hnb, decide_eq_true (show x.ctx.length = 0 by rw [← Hpn.out]; exact hp0)]; rfl
      clear hp0
      have HR4 : Hid (R = (((p1 && p2) && (e1 && e2)) && lockGo n (0 + 1) (l.drop (0 + 1)))) := by unfold Hid; rw [HR3.out, Hh1.out, Hnd.out]; cases p1 <;> cases p2 <;> cases e1 <;> cases e2 <;> rfl
      clear HR3 Hhd
      go_wp2_with fail
      refine (HP.out _ HB5.out).mono ?_
      rintro e w7 ⟨rfl, hb7⟩
      have HB7 := Lib.hid (bot HB5.out hb7)
      obtain ⟨⟨x0, x1, x2, x3, x4, x5⟩, y0⟩ := Hcell.out w7 HB7.out
      clear hb7
      cases hpp : (p1 && p2) with
      | false =>
        have Hr : Hid (R = false) := by unfold Hid; rw [HR4.out, hpp]; rfl
        clear HR4
        go_wp2_with fail
        go_ret
        exact ⟨ret_bL Hr.out.symm, bot HB0.out (bot HBr.out HB7.out)⟩
      | true =>
        go_wp2_with fail
        refine (HE.out _ HB7.out).mono ?_
        rintro e w8 ⟨rfl, hb8⟩
        have HB8 := Lib.hid (bot HB7.out hb8)
        clear hb8
        cases hee : (e1 && e2) with
        | false =>
          have Hr : Hid (R = false) := by unfold Hid; rw [HR4.out, hpp, hee]; rfl
          clear HR4
          go_wp2_with fail
          go_ret
          exact ⟨ret_bL Hr.out.symm, bot HB0.out (bot HBr.out HB8.out)⟩
        | true =>
          have HR5 : Hid (R = lockGo n (0 + 1) (l.drop (0 + 1))) := by unfold Hid; rw [HR4.out, hpp, hee]; rfl
          clear HR4
          go_wp2_with fail
          go_roundw
          case rel => exact ⟨0 + 1, by omega, by go_num, HR5, bot HBr.out HB8.out⟩
          case measure => simp [intOf]; omega
    · have hkb : ((k : Int) == 0) = false := by simp; omega
      have hkg : (0 : Int) < (k : Int) := by omega
      rw [if_neg hk00] at Hhd
      go_wp2_with fail
      refine (HNm.out w4).mono ?_
      rintro e w5 ⟨rfl, hb5⟩
      have HB5 := Lib.hid hb5
      obtain ⟨⟨x0, x1, x2, x3, x4, x5⟩, y0⟩ := Hcell.out w5 hb5
      clear hb5
      cases no with
      | false =>
        have Hr : Hid (R = false) := by unfold Hid; rw [HR3.out, Hhd.out]; rfl
        clear HR3 Hhd
        go_wp2_with fail
        go_ret
        exact ⟨ret_bL Hr.out.symm, bot HB0.out (bot HBr.out HB5.out)⟩
      | true =>
      go_wp2_with fail
      refine (HV.out _).mono ?_
      rintro e w6 ⟨rfl, hb6⟩
      have HB6 := Lib.hid (bot HB5.out hb6)
      obtain ⟨⟨x0, x1, x2, x3, x4, x5⟩, y0⟩ := Hcell.out w6 HB6.out
      clear hb6
      cases vo with
      | false =>
        have Hr : Hid (R = false) := by unfold Hid; rw [HR3.out, Hhd.out]; rfl
        clear HR3 Hhd
        go_wp2_with fail
        go_ret
        exact ⟨ret_bL Hr.out.symm, bot HB0.out (bot HBr.out HB6.out)⟩
      | true =>
      have Hh1 : Hid (headOk k x = true) := Hhd.out
      have HR4 : Hid (R = (((p1 && p2) && (e1 && e2)) && lockGo n (k + 1) (l.drop (k + 1)))) := by unfold Hid; rw [HR3.out, Hh1.out, Hnd.out]; cases p1 <;> cases p2 <;> cases e1 <;> cases e2 <;> rfl
      clear HR3 Hhd
      go_wp2_with fail
      refine (HP.out _ HB6.out).mono ?_
      rintro e w7 ⟨rfl, hb7⟩
      have HB7 := Lib.hid (bot HB6.out hb7)
      obtain ⟨⟨x0, x1, x2, x3, x4, x5⟩, y0⟩ := Hcell.out w7 HB7.out
      clear hb7
      cases hpp : (p1 && p2) with
      | false =>
        have Hr : Hid (R = false) := by unfold Hid; rw [HR4.out, hpp]; rfl
        clear HR4
        go_wp2_with fail
        go_ret
        exact ⟨ret_bL Hr.out.symm, bot HB0.out (bot HBr.out HB7.out)⟩
      | true =>
        go_wp2_with fail
        refine (HE.out _ HB7.out).mono ?_
        rintro e w8 ⟨rfl, hb8⟩
        have HB8 := Lib.hid (bot HB7.out hb8)
        clear hb8
        cases hee : (e1 && e2) with
        | false =>
          have Hr : Hid (R = false) := by unfold Hid; rw [HR4.out, hpp, hee]; rfl
          clear HR4
          go_wp2_with fail
          go_ret
          exact ⟨ret_bL Hr.out.symm, bot HB0.out (bot HBr.out HB8.out)⟩
        | true =>
          have HR5 : Hid (R = lockGo n (k + 1) (l.drop (k + 1))) := by unfold Hid; rw [HR4.out, hpp, hee]; rfl
          clear HR4
          go_wp2_with fail
          go_roundw
          case rel => exact ⟨k + 1, by omega, by go_num, HR5, bot HBr.out HB8.out⟩
          case measure => simp [intOf]; omega
end Go.Proofs.YthbnmehbhpakaaaGreatDoor
