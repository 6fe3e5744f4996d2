/-
  lock.May and the document's May, walked.
  The library's search for a text in a list (slices.Index); bounds of a text's lines; a list of lines, one line more.
  Lists of the call's own in the cells of one block: what a line more leaves of them.
  What a reader of packages answers, case by case, in plain words; a package's value whose lists are the reader's own.
-/
import Derived.Test.YthbnmehbhpakaaaGreatDoorDi19
import Derived.Test.YthbnmehbhpakaaaGreatDoorDi09
import Derived.Test.YthbnmehbhpakaaaGreatDoorDi02
import Derived.Test.YthbnmehbhpakaaaGreatDoorDi16
import Derived.Test.YthbnmehbhpakaaaGreatDoorDi06
import Derived.WalkKit
import Derived.WalkSpells
import Derived.IntWalk
import Derived.Lib.Hide
import Derived.Test.YthbnmehbhpakaaaGreatDoorDi15
import Derived.Test.YthbnmehbhpakaaaGreatDoorDi03
set_option autoImplicit false
set_option relaxedAutoImplicit false
set_option linter.unusedVariables false
set_option linter.unusedSimpArgs false
namespace Go.Proofs.YthbnmehbhpakaaaGreatDoor
open Go.Rows Go.RowKit Go.Shelf Go.Sort

def NodesZ (l : List Node) : Prop := l.length ≤ 1048576 ∧ ∀ x ∈ l, x.ctx.length ≤ 1048576 ∧ x.edges.length ≤ 1048576
/-- a node's cells in a list of nodes, and its value -/
theorem node_elem {w : World} {S : Nat → Prop} {l : List Node} {A : Option Addr} {n c k : Nat} {x : Node} (hl : SlV rNode w S l (.slice A n c)) (hx : l[k]? = some x) :
    ∃ b o pA pn pc eA en ec, A = some ⟨b, o, none⟩ ∧ b < w.heap.size ∧ x.name.size ≤ maxLen ∧ SlV rPin w S x.ctx (.slice pA pn pc) ∧ SlV rEdge w S x.edges (.slice eA en ec) ∧ pn = x.ctx.length ∧ en = x.edges.length ∧
      w.cell? ⟨b, o + k * 6, none⟩ = some (.string x.name) ∧ w.cell? ⟨b, o + k * 6 + 1, none⟩ = some (.int .i64 x.ver.major) ∧ w.cell? ⟨b, o + k * 6 + 2, none⟩ = some (.int .i64 x.ver.minor) ∧ w.cell? ⟨b, o + k * 6 + 3, none⟩ = some (.int .i64 x.ver.patch) ∧
      w.cell? ⟨b, o + k * 6 + 4, none⟩ = some (.slice pA pn pc) ∧ w.cell? ⟨b, o + k * 6 + 5, none⟩ = some (.slice eA en ec) := by
  obtain ⟨b, o, cs, hA, _, hb, ⟨s0, s1, hcs, hnm, _, _, _, h1, h2⟩, hcell⟩ := hl.elem hx
  obtain ⟨pA, pc, rfl, _, _⟩ := h1.val
  obtain ⟨eA, ec, rfl, _, _⟩ := h2.val
  have c0 := hcell 0 _ (by rw [hcs]; rfl)
  have c1 := hcell 1 _ (by rw [hcs]; rfl)
  have c2 := hcell 2 _ (by rw [hcs]; rfl)
  have c3 := hcell 3 _ (by rw [hcs]; rfl)
  have c4 := hcell 4 _ (by rw [hcs]; rfl)
  have c5 := hcell 5 _ (by rw [hcs]; rfl)
  simp only [rNode, Nat.add_zero] at c0 c1 c2 c3 c4 c5
  exact ⟨b, o, pA, _, pc, eA, _, ec, hA, hb, hnm, h1, h2, rfl, rfl, c0, c1, c2, c3, c4, c5⟩
set_option maxHeartbeats 6400000 in
set_option maxRecDepth 100000 in
theorem lockMay_any (A : Option Addr) (n c : Nat) (l : List Node) (w : World) (S : Nat → Prop) (hl : SlV rNode w S l (.slice A n c)) (hz : NodesZ l) :
    Calls Tryz.prog 69 #[.agg #[.slice A n c]] w fun e w' => e = .returned (.bool (lockB l)) ∧ Below w.heap.size w w' := by
  have hn := hl.n_eq
  have hcn := hl.cap_le
  unfold maxLen at hcn
  have HL := Lib.hid hl
  have Hn := Lib.hid hn
  have Hz := Lib.hid hz
  have hnz : n ≤ 1048576 := by have := hz.1; omega
  have HR : Hid (lockB l = ((decide (1 ≤ n) && decide (n ≤ 128)) && lockGo n 0 (l.drop 0))) := by unfold Hid lockB; rw [hn]; rfl
  clear hl hn hz
  generalize lockB l = R at *
  obtain ⟨w0, hw0⟩ : ∃ w0, w0 = w.alloc (.cells #[.slice A n c] 27) := ⟨_, rfl⟩
  have HB0 : Hid (Below w.heap.size w w0) := by unfold Hid; rw [hw0]; exact bal (Below.refl _ _) _
  have HQ0 : Hid (w0.heap[w.heap.size]? = some (.cells #[.slice A n c] 27 (0, 0))) := by unfold Hid; rw [hw0]; exact heap_new _ _
  have hq0 : w.heap.size < w0.heap.size := (Array.getElem?_eq_some_iff.1 HQ0.out).1
  have p0 : w0.cell? ⟨w.heap.size, 0, none⟩ = some (.slice A n c) := cell_of_row w0 _ 0 _ _ _ HQ0.out
  by_cases h1 : 1 ≤ n
  case neg =>
    have h1I : (n : Int) < 1 := by omega
    have Hr : Hid (R = false) := by unfold Hid; rw [HR.out, decide_eq_false h1]; rfl
    clear HR
    go_enter Tryz.func69, Tryz.ntmps69
    go_wp2_with fail
    try rw [← hw0]
    go_ret
    exact ⟨ret_bL Hr.out.symm, by first | exact HB0.out | exact bal (Below.refl _ _) _⟩
  by_cases h2 : n ≤ 128
  case neg =>
    have h1I : ¬ (n : Int) < 1 := by omega
    have h2I : (128 : Int) < (n : Int) := by omega
    have Hr : Hid (R = false) := by unfold Hid; rw [HR.out, decide_eq_false h2]; simp
    clear HR
    go_enter Tryz.func69, Tryz.ntmps69
    go_wp2_with fail
    go_ret
    exact ⟨ret_bL Hr.out.symm, by first | exact HB0.out | exact bal (Below.refl _ _) _⟩
  have h1I : ¬ (n : Int) < 1 := by omega
  have h2I : ¬ (128 : Int) < (n : Int) := by omega
  have HR2 : Hid (R = lockGo n 0 (l.drop 0)) := by unfold Hid; rw [HR.out, decide_eq_true h1, decide_eq_true h2]; rfl
  clear HR
  go_enter Tryz.func69, Tryz.ntmps69
  go_wp2_with fail
  rw [← hw0]
  clear hw0
  go_loopw [19] (fun i wr => ∃ k : Nat, k ≤ n ∧ i = .int .i64 k ∧ Hid (R = lockGo n k (l.drop k)) ∧ Hid (Below w0.heap.size w0 wr)) (fun i _ => n - (intOf i).toNat)
  case atStart => exact ⟨0, Nat.zero_le _, rfl, HR2, Below.refl _ _⟩
  case round =>
    clear HR2 p0
    obtain ⟨k, hk, rfl, HR, HB⟩ := hrel
    have HQr : Hid (wr.heap[w.heap.size]? = some (.cells #[.slice A n c] 27 (0, 0))) := (HB.out.block _ hq0).trans HQ0.out
    have p0 : wr.cell? ⟨w.heap.size, 0, none⟩ = some (.slice A n c) := cell_of_row wr _ 0 _ _ _ HQr.out
    by_cases hlt : k < n
    case neg =>
      obtain rfl : k = n := by omega
      have hI : ¬ (k : Int) < (k : Int) := by omega
      have Hr : Hid (R = true) := by unfold Hid; rw [HR.out, lockGo_done (by rw [← Hn.out]; exact Nat.le_refl _)]
      clear HR
      go_wp2_with fail
      go_ret
      exact ⟨ret_bL Hr.out.symm, bot HB0.out HB.out⟩
    have hkI : (k : Int) < (n : Int) := by omega
    have hk0 : (0 : Int) ≤ (k : Int) := by omega
    have hkl : k < l.length := by rw [← Hn.out]; exact hlt
    obtain ⟨x, hx⟩ : ∃ x, l[k]? = some x := ⟨_, List.getElem?_eq_getElem hkl⟩
    have h3 := HR.out
    rw [lockGo_step hx] at h3
    have HR3 := Lib.hid h3
    obtain ⟨hz1, hz2⟩ := Hz.out.2 x (List.mem_of_getElem? hx)
    obtain ⟨b, o, pA, pn, pc, eA, en, ec, rfl, hb, hnm, hp, he, hpn, hen, c0, c1, c2, c3, c4, c5⟩ := node_elem (HL.out.belowSize (bot HB0.out HB.out)) hx
    have HNm : Hid (∀ W, Calls Tryz.prog 61 #[.string x.name] W fun e w' => e = .returned (.bool (nameB x.name)) ∧ Below W.heap.size W w') := fun W => scanName_any x.name hnm W
    have HV : Hid (∀ W, Calls Tryz.prog 129 #[.agg #[.int .i64 x.ver.major, .int .i64 x.ver.minor, .int .i64 x.ver.patch]] W fun e w' => e = .returned (.bool (verOk x.ver)) ∧ Below W.heap.size W w') := fun W => versMay_any _ _ _ W
    have HNd : Hid (∀ W, Below wr.heap.size wr W → Calls Tryz.prog 130 #[.agg #[.string x.name, .int .i64 x.ver.major, .int .i64 x.ver.minor, .int .i64 x.ver.patch, .slice pA pn pc, .slice eA en ec], .int .i64 (n : Int)] W fun e w' => e = .returned (.bool (nodeOk n x)) ∧ Below W.heap.size W w') := fun W hW =>
      lockNode_any x _ n (by omega) W S (by omega) (by omega) ⟨pA, pn, pc, eA, en, ec, rfl, hnm, hp.belowSize hW, he.belowSize hW⟩
    have Hpn := Lib.hid hpn
    have Hhd : Hid (headOk k x = if k = 0 then (x.name.toList == []) && (zeroV x.ver && decide (x.ctx.length = 0)) else nameB x.name && verOk x.ver) := rfl
    have Hzv : Hid (zeroV x.ver = (decide (x.ver.major = 0) && (decide (x.ver.minor = 0) && decide (x.ver.patch = 0)))) := rfl
    clear hx h3 HR hp he hpn hen hz1 hz2
    generalize x.name = nm at *
    generalize x.ver.major = v1 at *
    generalize x.ver.minor = v2 at *
    generalize x.ver.patch = v3 at *
    generalize verOk x.ver = vo at *
    generalize nameB nm = no at *
    generalize nodeOk n x = nd at *
    go_wp2_with fail
    refine (HNm.out _).mono ?_
    rintro e w5 ⟨rfl, hb5⟩
    obtain ⟨w4, hw4⟩ : ∃ w4, w4 = wr.alloc (.cells #[.string nm, .int .i64 v1, .int .i64 v2, .int .i64 v3, .slice pA pn pc, .slice eA en ec] 63) := ⟨_, rfl⟩
    have hq4 : w4.heap[wr.heap.size]? = some (.cells #[.string nm, .int .i64 v1, .int .i64 v2, .int .i64 v3, .slice pA pn pc, .slice eA en ec] 63 (0, 0)) := by rw [hw4]; exact heap_new _ _
    have hb4 : Below wr.heap.size wr w4 := by rw [hw4]; exact bal (Below.refl _ _) _
    rw [← hw4] at hb5
    have hs4 := (Array.getElem?_eq_some_iff.1 hq4).1
    have HX5 : Hid (w5.heap[wr.heap.size]? = some (.cells #[.string nm, .int .i64 v1, .int .i64 v2, .int .i64 v3, .slice pA pn pc, .slice eA en ec] 63 (0, 0))) := (hb5.block _ hs4).trans hq4
    have HB5 : Hid (Below wr.heap.size wr w5) := bot hb4 hb5
    have hsr : w.heap.size < wr.heap.size := Nat.lt_of_lt_of_le hq0 HB.out.size
    have hcell : ∀ W, Below w5.heap.size w5 W → (W.cell? ⟨wr.heap.size, 0, none⟩ = some (.string nm) ∧ W.cell? ⟨wr.heap.size, 1, none⟩ = some (.int .i64 v1) ∧ W.cell? ⟨wr.heap.size, 2, none⟩ = some (.int .i64 v2) ∧ W.cell? ⟨wr.heap.size, 3, none⟩ = some (.int .i64 v3) ∧ W.cell? ⟨wr.heap.size, 4, none⟩ = some (.slice pA pn pc) ∧ W.cell? ⟨wr.heap.size, 5, none⟩ = some (.slice eA en ec)) ∧ W.cell? ⟨w.heap.size, 0, none⟩ = some (.slice (some ⟨b, o, none⟩) n c) := fun W hW => by
      have hX := (hW.block _ (Array.getElem?_eq_some_iff.1 HX5.out).1).trans HX5.out
      exact ⟨⟨cell_of_row _ _ 0 _ _ _ hX, cell_of_row _ _ 1 _ _ _ hX, cell_of_row _ _ 2 _ _ _ hX, cell_of_row _ _ 3 _ _ _ hX, cell_of_row _ _ 4 _ _ _ hX, cell_of_row _ _ 5 _ _ _ hX⟩, below_cell (bot HB5.out hW) p0 hsr⟩
    have Hcell := Lib.hid hcell
    obtain ⟨⟨x0, x1, x2, x3, x4, x5⟩, y0⟩ := hcell w5 (Below.refl _ _)
    clear hw4 hq4 hb4 hb5 hs4 hcell c0 c1 c2 c3 c4 c5 p0 HNm hnm
    by_cases hk00 : k = 0
    · subst hk00
      rw [if_pos rfl] at Hhd
      cases no with
      | false =>
        cases hnb : (nm.toList == []) with
        | false =>
          have Hr : Hid (R = false) := by unfold Hid; rw [HR3.out, Hhd.out, hnb]; rfl
          clear HR3 Hhd
          go_wp2_with fail
          go_ret
          exact ⟨ret_bL Hr.out.symm, bot HB0.out (bot HB.out HB5.out)⟩
        | true =>
        by_cases hv : v1 = 0 ∧ v2 = 0 ∧ v3 = 0
        case neg =>
          have Hr : Hid (R = false) := by
            unfold Hid
            rw [HR3.out, Hhd.out, Hzv.out, hnb]
            by_cases e1 : v1 = 0 <;> by_cases e2 : v2 = 0 <;> by_cases e3 : v3 = 0 <;> simp_all
          clear HR3 Hhd
          go_wp2_with fail
          all_goals first
            | (exfalso; apply hv; refine ⟨?_, ?_, ?_⟩ <;> assumption)
            | (go_ret; exact ⟨ret_bL Hr.out.symm, bot HB0.out (bot HB.out HB5.out)⟩)
        obtain ⟨rfl, rfl, rfl⟩ := hv
        by_cases hp0 : pn = 0
        case neg =>
          have hpb : ((pn : Int) == 0) = false := by simp; omega
          have Hr : Hid (R = false) := by unfold Hid; rw [HR3.out, Hhd.out, decide_eq_false (by rw [← Hpn.out]; exact hp0)]; simp
          clear HR3 Hhd
          go_wp2_with fail
          go_ret
          exact ⟨ret_bL Hr.out.symm, bot HB0.out (bot HB.out HB5.out)⟩
        have hpb : ((pn : Int) == 0) = true := by simp; omega
        have HR4 : Hid (R = (nd && lockGo n (0 + 1) (l.drop (0 + 1)))) := by unfold Hid; rw [HR3.out, Hhd.out, Hzv.out, hnb, decide_eq_true (show x.ctx.length = 0 by rw [← Hpn.out]; exact hp0)]; rfl
        clear HR3 Hhd hp0
        go_wp2_with fail
        refine (HNd.out _ HB5.out).mono ?_
        rintro e w7 ⟨rfl, hb7⟩
        have HB7 := Lib.hid (bot HB5.out hb7)
        clear hb7
        cases nd with
        | false =>
          have Hr : Hid (R = false) := HR4.out
          clear HR4
          go_wp2_with fail
          go_ret
          exact ⟨ret_bL Hr.out.symm, bot HB0.out (bot HB.out HB7.out)⟩
        | true =>
          rw [Bool.true_and] at HR4
          go_wp2_with fail
          go_roundw
          case rel => exact ⟨0 + 1, by omega, by go_num, HR4, bot HB.out HB7.out⟩
          case measure => simp [intOf]; omega
      | true =>
        go_wp2_with fail
        refine (HV.out _).mono ?_
        rintro e w6 ⟨rfl, hb6⟩
        have HB6 := Lib.hid (bot HB5.out hb6)
        obtain ⟨⟨x0, x1, x2, x3, x4, x5⟩, y0⟩ := Hcell.out w6 hb6
        clear hb6
        cases hnb : (nm.toList == []) with
        | false =>
          have Hr : Hid (R = false) := by unfold Hid; rw [HR3.out, Hhd.out, hnb]; rfl
          clear HR3 Hhd
          go_wp2_with fail
          go_ret
          exact ⟨ret_bL Hr.out.symm, bot HB0.out (bot HB.out HB6.out)⟩
        | true =>
        by_cases hv : v1 = 0 ∧ v2 = 0 ∧ v3 = 0
        case neg =>
          have Hr : Hid (R = false) := by
            unfold Hid
            rw [HR3.out, Hhd.out, Hzv.out, hnb]
            by_cases e1 : v1 = 0 <;> by_cases e2 : v2 = 0 <;> by_cases e3 : v3 = 0 <;> simp_all
          clear HR3 Hhd
          go_wp2_with fail
          all_goals first
            | (exfalso; apply hv; refine ⟨?_, ?_, ?_⟩ <;> assumption)
            | (go_ret; exact ⟨ret_bL Hr.out.symm, bot HB0.out (bot HB.out HB6.out)⟩)
        obtain ⟨rfl, rfl, rfl⟩ := hv
        by_cases hp0 : pn = 0
        case neg =>
          have hpb : ((pn : Int) == 0) = false := by simp; omega
          have Hr : Hid (R = false) := by unfold Hid; rw [HR3.out, Hhd.out, decide_eq_false (by rw [← Hpn.out]; exact hp0)]; simp
          clear HR3 Hhd
          go_wp2_with fail
          go_ret
          exact ⟨ret_bL Hr.out.symm, bot HB0.out (bot HB.out HB6.out)⟩
        have hpb : ((pn : Int) == 0) = true := by simp; omega
        have HR4 : Hid (R = (nd && lockGo n (0 + 1) (l.drop (0 + 1)))) := by unfold Hid; rw [HR3.out, Hhd.out, Hzv.out, hnb, decide_eq_true (show x.ctx.length = 0 by rw [← Hpn.out]; exact hp0)]; rfl
        clear HR3 Hhd hp0
        go_wp2_with fail
        refine (HNd.out _ HB6.out).mono ?_
        rintro e w7 ⟨rfl, hb7⟩
        have HB7 := Lib.hid (bot HB6.out hb7)
        clear hb7
        cases nd with
        | false =>
          have Hr : Hid (R = false) := HR4.out
          clear HR4
          go_wp2_with fail
          go_ret
          exact ⟨ret_bL Hr.out.symm, bot HB0.out (bot HB.out HB7.out)⟩
        | true =>
          rw [Bool.true_and] at HR4
          go_wp2_with fail
          go_roundw
          case rel => exact ⟨0 + 1, by omega, by go_num, HR4, bot HB.out HB7.out⟩
          case measure => simp [intOf]; omega
    · have hkb : ((k : Int) == 0) = false := by simp; omega
      rw [if_neg hk00] at Hhd
      cases no with
      | false =>
        have Hr : Hid (R = false) := by unfold Hid; rw [HR3.out, Hhd.out]; rfl
        clear HR3 Hhd
        go_wp2_with fail
        go_ret
        exact ⟨ret_bL Hr.out.symm, bot HB0.out (bot HB.out HB5.out)⟩
      | true =>
        go_wp2_with fail
        refine (HV.out _).mono ?_
        rintro e w6 ⟨rfl, hb6⟩
        have HB6 := Lib.hid (bot HB5.out hb6)
        obtain ⟨⟨x0, x1, x2, x3, x4, x5⟩, y0⟩ := Hcell.out w6 hb6
        clear hb6
        cases vo with
        | false =>
          have Hr : Hid (R = false) := by unfold Hid; rw [HR3.out, Hhd.out]; rfl
          clear HR3 Hhd
          go_wp2_with fail
          go_ret
          exact ⟨ret_bL Hr.out.symm, bot HB0.out (bot HB.out HB6.out)⟩
        | true =>
          have HR4 : Hid (R = (nd && lockGo n (k + 1) (l.drop (k + 1)))) := by unfold Hid; rw [HR3.out, Hhd.out]; rfl
          clear HR3 Hhd
          go_wp2_with fail
          refine (HNd.out _ HB6.out).mono ?_
          rintro e w7 ⟨rfl, hb7⟩
          have HB7 := Lib.hid (bot HB6.out hb7)
          clear hb7
          cases nd with
          | false =>
            have Hr : Hid (R = false) := HR4.out
            clear HR4
            go_wp2_with fail
            go_ret
            exact ⟨ret_bL Hr.out.symm, bot HB0.out (bot HB.out HB7.out)⟩
          | true =>
            rw [Bool.true_and] at HR4
            go_wp2_with fail
            go_roundw
            case rel => exact ⟨k + 1, by omega, by go_num, HR4, bot HB.out HB7.out⟩
            case measure => simp [intOf]; omega
end Go.Proofs.YthbnmehbhpakaaaGreatDoor
set_option autoImplicit false
set_option relaxedAutoImplicit false
set_option linter.unusedVariables false
set_option linter.unusedSimpArgs false
namespace Go.Proofs.YthbnmehbhpakaaaGreatDoor
open Go.Rows Go.RowKit Go.Shelf Go.Sort

/-! ### bounds of a text's lines -/
/-! ### a list of lines, one line more -/
end Go.Proofs.YthbnmehbhpakaaaGreatDoor
set_option autoImplicit false
set_option relaxedAutoImplicit false
set_option linter.unusedVariables false
set_option linter.unusedSimpArgs false
namespace Go.Proofs.YthbnmehbhpakaaaGreatDoor
open Go.Rows Go.RowKit Go.Shelf Go.Sort

/-- a block that may be written into -/
def Live (w : World) (b : Nat) : Prop := ∃ cs t, w.heap[b]? = some (.cells cs t (0, 0))
/-- blocks from B on that may be written into -/
def Fresh (B : Nat) (w : World) (b : Nat) : Prop := B ≤ b ∧ Live w b
theorem live_lt {w : World} {b : Nat} (h : Live w b) : b < w.heap.size := by
  obtain ⟨cs, t, h⟩ := h
  exact (Array.getElem?_eq_some_iff.1 h).1
theorem live_same {w w' : World} {b : Nat} (h : Live w b) (hk : w'.heap[b]? = w.heap[b]?) : Live w' b := by unfold Live; rw [hk]; exact h
/-- one cell more known -/
def upd {α : Type} (f : Nat → α) (k : Nat) (x : α) (j : Nat) : α := if j = k then x else f j
theorem upd_at {α : Type} (f : Nat → α) (k : Nat) (x : α) : upd f k x k = x := if_pos rfl
theorem upd_ne {α : Type} (f : Nat → α) {k j : Nat} (x : α) (h : j ≠ k) : upd f k x j = f j := if_neg h

/-- lists of the call's own, in rows that are apart -/
def PartsIn (n B : Nat) (w : World) (v : Nat → Value) (l : Nat → List Dep) (S : Nat → Prop) : Prop :=
  (∀ j, j < n → Own rDep w B 158 (v j) (l j) S) ∧ (∀ b, S b → Fresh B w b) ∧ (∀ i j g, i < n → j < n → i ≠ j → (v i).ownBlock = some g → (v j).ownBlock ≠ some g)
section
variable {n B : Nat} {w w' : World} {v : Nat → Value} {l : Nat → List Dep} {S : Nat → Prop}
theorem PartsIn.nil (n B : Nat) (w : World) : PartsIn n B w (fun _ => .slice none 0 0) (fun _ => []) (fun _ => False) :=
  ⟨fun _ _ => Own.nil_ _ _ _ _ (fun b hb => hb.elim), fun b hb => hb.elim, fun _ _ _ _ _ _ h => by cases h⟩
theorem PartsIn.keep (h : PartsIn n B w v l S) (hb : Below w.heap.size w w') : PartsIn n B w' v l S :=
  ⟨fun j hj => (h.1 j hj).keep hb, fun b hs => ⟨(h.2.1 b hs).1, live_same (h.2.1 b hs).2 (hb.block b (live_lt (h.2.1 b hs).2))⟩, h.2.2⟩
/-- a write below them -/
theorem PartsIn.at (h : PartsIn n B w v l S) {b : Nat} (hb : b < B) (hg : w.grownBy w' (some b)) : PartsIn n B w' v l S := by
  refine ⟨fun j hj => (h.1 j hj).grown hg ?_ ?_, fun c hs => ⟨(h.2.1 c hs).1, live_same (h.2.1 c hs).2 (hg.block c (live_lt (h.2.1 c hs).2) ?_)⟩, h.2.2⟩
  · cases hv : (v j).ownBlock with
    | none => exact .inl rfl
    | some g => exact .inr fun e => by have := ((h.1 j hj).lt g hv).1; simp only [Option.some.injEq] at e; omega
  · intro c hs e
    cases e
    have := (h.2.1 b hs).1; omega
  · intro e
    cases e
    have := (h.2.1 b hs).1; omega
/-- new blocks may be met too -/
theorem PartsIn.more (h : PartsIn n B w v l S) (hb : Below w.heap.size w w') (hB : B ≤ w.heap.size) : PartsIn n B w' v l (fun b => S b ∨ Fresh w.heap.size w' b) := by
  have hk := h.keep hb
  refine ⟨fun j hj => (hk.1 j hj).more ?_ (fun b hs => .inl hs), ?_, h.2.2⟩
  · rintro b (hs | hs)
    · exact (hk.1 j hj).1 b hs
    · exact ⟨live_lt hs.2, fun e => by have := ((h.1 j hj).lt b e).2; have := hs.1; omega⟩
  · rintro b (hs | hs)
    · exact hk.2.1 b hs
    · exact ⟨Nat.le_trans hB hs.1, hs.2⟩
theorem PartsIn.push {o : Obj} {k g m cap : Nat} {d : Dep} (h : PartsIn n B w v l S) (hk : k < n) (hown : Own rDep w' B 158 (.slice (some ⟨g, 0, none⟩) m cap) (l k ++ [d]) S)
    (hg : (w.alloc o).grownBy w' (v k).ownBlock) (hat : (v k).ownBlock = some g ∨ g = w.heap.size + 1) : PartsIn n B w' (upd v k (.slice (some ⟨g, 0, none⟩) m cap)) (upd l k (l k ++ [d])) S := by
  have hS : ∀ b, S b → some b ≠ (v k).ownBlock := fun b hb => Ne.symm ((h.1 k hk).1 b hb).2
  have hv : ∀ j, j < n → j ≠ k → (v j).ownBlock ≠ some g := fun j hj hne e => by
    rcases hat with hat | hat
    · exact h.2.2 j k g hj hk hne e hat
    · have := ((h.1 j hj).lt g e).2; omega
  refine ⟨fun j hj => ?_, fun b hs => ?_, fun i j q hi hj hne hq => ?_⟩
  · by_cases e : j = k
    · subst e; rw [upd_at, upd_at]; exact hown
    · rw [upd_ne _ _ e, upd_ne _ _ e]
      refine ((h.1 j hj).alloc o).grown hg ?_ hS
      cases hvj : (v j).ownBlock with
      | none => exact .inl rfl
      | some q => exact .inr fun e' => h.2.2 j k q hj hk e hvj e'.symm
  · have hl := live_lt (h.2.1 b hs).2
    refine ⟨(h.2.1 b hs).1, live_same (h.2.1 b hs).2 ?_⟩
    rw [hg.block b (by simp; omega) (hS b hs)]
    exact Below.heap_alloc w o b hl
  · by_cases ei : i = k
    · subst ei
      rw [upd_at] at hq
      simp only [Value.ownBlock, Option.some.injEq] at hq
      subst hq
      rw [upd_ne _ _ (Ne.symm hne)]
      exact hv j hj (Ne.symm hne)
    · rw [upd_ne _ _ ei] at hq
      by_cases ej : j = k
      · subst ej
        rw [upd_at]
        intro e
        simp only [Value.ownBlock, Option.some.injEq] at e
        subst e
        exact hv i hi ei hq
      · rw [upd_ne _ _ ej]
        exact h.2.2 i j q hi hj hne hq
end

/-- the cells of a block: some ahead, then one for each list -/
def cellsP (hd : List Value) (n : Nat) (v : Nat → Value) : Array Value := (hd ++ (List.range n).map v).toArray
theorem cellsP_at (hd : List Value) {n : Nat} (v : Nat → Value) {j : Nat} (h : j < n) : (cellsP hd n v)[hd.length + j]? = some (v j) := by
  unfold cellsP
  rw [List.getElem?_toArray, List.getElem?_append_right (by omega), Nat.add_sub_cancel_left, List.getElem?_map, List.getElem?_range h]
  rfl
theorem cellsP_set (hd : List Value) {n : Nat} (v : Nat → Value) {k : Nat} (h : k < n) (x : Value) : (cellsP hd n v).setIfInBounds (hd.length + k) x = cellsP hd n (upd v k x) := by
  apply Array.ext'
  unfold cellsP
  rw [Array.toList_setIfInBounds]
  show (hd ++ (List.range n).map v).set (hd.length + k) x = hd ++ (List.range n).map (upd v k x)
  rw [List.set_append, if_neg (by omega), Nat.add_sub_cancel_left]
  congr 1
  apply List.ext_getElem?
  intro i
  rw [List.getElem?_set, List.getElem?_map, List.getElem?_map, List.length_map, List.length_range]
  by_cases e : k = i
  · subst e
    rw [if_pos rfl, if_pos h, List.getElem?_range h, Option.map_some, upd_at]
  · rw [if_neg e]
    by_cases hi : i < n
    · rw [List.getElem?_range hi, Option.map_some, Option.map_some, upd_ne _ _ (Ne.symm e)]
    · rw [List.getElem?_eq_none (by simpa using hi)]; rfl
/-- a block of lists -/
def PartsAt (P : Nat) (hd : List Value) (t : TypeId) (n : Nat) (w : World) (v : Nat → Value) : Prop := w.heap[P]? = some (.cells (cellsP hd n v) t (0, 0))
section
variable {P n : Nat} {hd : List Value} {t : TypeId} {w w' : World} {v : Nat → Value}
theorem PartsAt.lt (h : PartsAt P hd t n w v) : P < w.heap.size := (Array.getElem?_eq_some_iff.1 h).1
theorem PartsAt.cell (h : PartsAt P hd t n w v) {j : Nat} (hj : j < n) : w.cell? ⟨P, hd.length + j, none⟩ = some (v j) := by
  rw [cell_of_row w P _ _ t _ h, cellsP_at hd v hj]
theorem PartsAt.keep (h : PartsAt P hd t n w v) (hb : Below w.heap.size w w') : PartsAt P hd t n w' v := (hb.block P h.lt).trans h
theorem PartsAt.grown (h : PartsAt P hd t n w v) {row : Option Nat} (hg : w.grownBy w' row) (hne : some P ≠ row) : PartsAt P hd t n w' v := (hg.block P h.lt hne).trans h
theorem PartsAt.set (h : PartsAt P hd t n w v) {k : Nat} (hk : k < n) (x : Value) : PartsAt P hd t n (w.setCell ⟨P, hd.length + k, none⟩ x) (upd v k x) := by
  have := heap_set1 (o := hd.length + k) h x
  rw [cellsP_set hd v hk] at this
  exact this
end
theorem PartsAt.head {P n : Nat} {hd : List Value} {t : TypeId} {w : World} {v : Nat → Value} (h : PartsAt P hd t n w v) {i : Nat} (hi : i < hd.length) (x : Value) : PartsAt P (hd.set i x) t n (w.setCell ⟨P, i, none⟩ x) v := by
  have h1 := heap_set1 (o := i) h x
  have e : (cellsP hd n v).setIfInBounds i x = cellsP (hd.set i x) n v := by
    apply Array.ext'
    unfold cellsP
    rw [Array.toList_setIfInBounds]
    show (hd ++ (List.range n).map v).set i x = hd.set i x ++ (List.range n).map v
    rw [List.set_append, if_pos hi]
  rw [e] at h1
  exact h1
end Go.Proofs.YthbnmehbhpakaaaGreatDoor
set_option autoImplicit false
set_option relaxedAutoImplicit false
set_option linter.unusedVariables false
set_option linter.unusedSimpArgs false
namespace Go.Proofs.YthbnmehbhpakaaaGreatDoor
open Go.Rows Go.RowKit Go.Shelf Go.Sort

/-- a package's value whose lists are the reader's own -/
def PackO (w : World) (B : Nat) (p : Pack) (u : Value) : Prop :=
  ∃ (v : Nat → Value) (l : Nat → List Dep) (S : Nat → Prop), u = .agg (cellsP [.string p.name, .int .i64 p.ver.major, .int .i64 p.ver.minor, .int .i64 p.ver.patch] 3 v) ∧ p.name.size ≤ maxLen ∧ PartsIn 3 B w v l S ∧ l 0 = p.deps ∧ l 1 = p.peers ∧ l 2 = p.opts
theorem PackO.zero (w : World) (B : Nat) : PackO w B packZ (.agg #[.string ⟨#[]⟩, .int .i64 0, .int .i64 0, .int .i64 0, .slice none 0 0, .slice none 0 0, .slice none 0 0]) :=
  ⟨_, _, _, rfl, by decide, PartsIn.nil 3 B w, rfl, rfl, rfl⟩
theorem PackO.keep {w w' : World} {B : Nat} {p : Pack} {u : Value} (h : PackO w B p u) (hb : Below w.heap.size w w') : PackO w' B p u := by
  obtain ⟨v, l, S, h1, h2, h3, h4⟩ := h
  exact ⟨v, l, S, h1, h2, h3.keep hb, h4⟩
theorem ret_cells {P : Program} {fn : Func} {R : Ending → World → Prop} {ty : TypeId} {d : TypeDesc} {p q : Tmp} {a : Act} {W : World} {g : Nat} {cs : Array Value} {bv : Value} {t : TypeId} (hf : fn.results = #[.cell p ty, .tmp q]) (hd : a.defers = []) (h2 : a.tmps.getD p undef = .pointer (some ⟨g, 0, none⟩)) (h3 : a.tmps.getD q undef = bv)
    (hg : W.heap[g]? = some (.cells cs t (0, 0))) (hu : P.underlying ty = some d) (hdd : (match d with | .struct _ | .array _ _ => true | _ => false) = true) (hi : (P.info? ty).map (·.size) = some cs.size)
    (h : R (.returned (.tuple #[.agg cs, bv])) W) : bodyPost P fn R Exit.ret a W :=
  bodyPost_ret (results_cell_slot hf a.tmps W g t cs (0, 0) d h2 hg hu hdd hi) hd (by rw [h3]; exact h)
theorem row7 {W : World} {b : Nat} {x0 x1 x2 x3 x4 x5 x6 : Value} {t : TypeId} (h : W.heap[b]? = some (.cells #[x0, x1, x2, x3, x4, x5, x6] t (0, 0))) :
    (W.cell? ⟨b, 0, none⟩ = some x0 ∧ W.cell? ⟨b, 1, none⟩ = some x1 ∧ W.cell? ⟨b, 2, none⟩ = some x2 ∧ W.cell? ⟨b, 3, none⟩ = some x3 ∧ W.cell? ⟨b, 4, none⟩ = some x4 ∧ W.cell? ⟨b, 5, none⟩ = some x5 ∧ W.cell? ⟨b, 6, none⟩ = some x6) ∧
    W.frozen? ⟨b, 0, none⟩ = false ∧ W.frozen? ⟨b, 1, none⟩ = false ∧ W.frozen? ⟨b, 2, none⟩ = false ∧ W.frozen? ⟨b, 3, none⟩ = false ∧ W.frozen? ⟨b, 4, none⟩ = false ∧ W.frozen? ⟨b, 5, none⟩ = false ∧ W.frozen? ⟨b, 6, none⟩ = false := by
  refine ⟨⟨cell_of_row _ _ 0 _ _ _ h, cell_of_row _ _ 1 _ _ _ h, cell_of_row _ _ 2 _ _ _ h, cell_of_row _ _ 3 _ _ _ h, cell_of_row _ _ 4 _ _ _ h, cell_of_row _ _ 5 _ _ _ h, cell_of_row _ _ 6 _ _ _ h⟩, ?_, ?_, ?_, ?_, ?_, ?_, ?_⟩ <;> simp [World.frozen?, h]
theorem heap_set7 {W : World} {b : Nat} {x0 x1 x2 x3 x4 x5 x6 : Value} {t : TypeId} (h : W.heap[b]? = some (.cells #[x0, x1, x2, x3, x4, x5, x6] t (0, 0))) (a0 a1 a2 a3 a4 a5 a6 : Value) :
    (((((((W.setCell ⟨b, 0, none⟩ a0).setCell ⟨b, 1, none⟩ a1).setCell ⟨b, 2, none⟩ a2).setCell ⟨b, 3, none⟩ a3).setCell ⟨b, 4, none⟩ a4).setCell ⟨b, 5, none⟩ a5).setCell ⟨b, 6, none⟩ a6).heap[b]? = some (.cells #[a0, a1, a2, a3, a4, a5, a6] t (0, 0)) := by
  have h0 := heap_set1 (o := 0) h a0
  rw [show (#[x0, x1, x2, x3, x4, x5, x6] : Array Value).setIfInBounds 0 a0 = #[a0, x1, x2, x3, x4, x5, x6] from rfl] at h0
  have h1 := heap_set1 (o := 1) h0 a1
  rw [show (#[a0, x1, x2, x3, x4, x5, x6] : Array Value).setIfInBounds 1 a1 = #[a0, a1, x2, x3, x4, x5, x6] from rfl] at h1
  have h2 := heap_set1 (o := 2) h1 a2
  rw [show (#[a0, a1, x2, x3, x4, x5, x6] : Array Value).setIfInBounds 2 a2 = #[a0, a1, a2, x3, x4, x5, x6] from rfl] at h2
  have h3 := heap_set1 (o := 3) h2 a3
  rw [show (#[a0, a1, a2, x3, x4, x5, x6] : Array Value).setIfInBounds 3 a3 = #[a0, a1, a2, a3, x4, x5, x6] from rfl] at h3
  have h4 := heap_set1 (o := 4) h3 a4
  rw [show (#[a0, a1, a2, a3, x4, x5, x6] : Array Value).setIfInBounds 4 a4 = #[a0, a1, a2, a3, a4, x5, x6] from rfl] at h4
  have h5 := heap_set1 (o := 5) h4 a5
  rw [show (#[a0, a1, a2, a3, a4, x5, x6] : Array Value).setIfInBounds 5 a5 = #[a0, a1, a2, a3, a4, a5, x6] from rfl] at h5
  have h6 := heap_set1 (o := 6) h5 a6
  rw [show (#[a0, a1, a2, a3, a4, a5, x6] : Array Value).setIfInBounds 6 a6 = #[a0, a1, a2, a3, a4, a5, a6] from rfl] at h6
  exact h6
theorem below_set7 {W0 W : World} {B b : Nat} (h : Below B W0 W) (hb : B ≤ b) (a0 a1 a2 a3 a4 a5 a6 : Value) :
    Below B W0 (((((((W.setCell ⟨b, 0, none⟩ a0).setCell ⟨b, 1, none⟩ a1).setCell ⟨b, 2, none⟩ a2).setCell ⟨b, 3, none⟩ a3).setCell ⟨b, 4, none⟩ a4).setCell ⟨b, 5, none⟩ a5).setCell ⟨b, 6, none⟩ a6) :=
  ((((((h.setCell hb a0).setCell hb a1).setCell hb a2).setCell hb a3).setCell hb a4).setCell hb a5).setCell hb a6

/-- where a slice that is read lies -/
theorem SlV.at {α : Type} {r : Rp α} {w : World} {S : Nat → Prop} {l : List α} {A : Option Addr} {n c : Nat} (h : SlV r w S l (.slice A n c)) (h0 : 0 < l.length) : ∃ b o, A = some ⟨b, o, none⟩ ∧ S b ∧ b < w.heap.size := by
  obtain ⟨b, o, cs, h1, h2, h3, _⟩ := h.elem (List.getElem?_eq_getElem h0)
  exact ⟨b, o, h1, h2, h3⟩
theorem SlV.row {α : Type} {r : Rp α} {w : World} {S : Nat → Prop} {l : List (List α)} {b o n c i : Nat} {x : List α} (h : SlV (rSlice r) w S l (.slice (some ⟨b, o, none⟩) n c)) (hx : l[i]? = some x) : ∃ A c', w.cell? ⟨b, o + i, none⟩ = some (.slice A x.length c') ∧ SlV r w S x (.slice A x.length c') := by
  obtain ⟨b', o', cs, h1, _, _, hs, hcell⟩ := h.elem hx
  injection h1 with h1
  injection h1 with hb ho _
  subst hb ho
  obtain ⟨A, c', rfl, hs'⟩ := hs
  have := hcell 0 _ rfl
  simp only [rSlice, Nat.add_zero, Nat.mul_one] at this
  exact ⟨A, c', this, A, c', rfl, hs'⟩
theorem elt_dep : Elt Tryz.prog 158 2 40 := Elt.mk' (z := .agg #[.string ⟨#[]⟩, .slice none 0 0]) (by kernel_rfl) rfl (by decide)
end Go.Proofs.YthbnmehbhpakaaaGreatDoor
