/-
  Two lists of strings compared, element by element: what is answered is whether they are one; draws alone. A drawing held against the document's; a point that is known. Two drawings held against one another; a drawing's weight.
-/
import Derived.Test.YtkpbnbnfgadkcaaGreatDoorRows
import Derived.Test.YtkpbnbnfgadkcaaGreatDoorRep
import Derived.Test.YtkpbnbnfgadkcaaGreatDoorPlain
import Derived.WalkKit
import Derived.WalkSpells
import Derived.WalkLawsBesides
import Derived.Deep.QuietTactic
import Derived.BigQuiet
import Derived.IntWalk
import Derived.Lib.Hide
import Derived.Test.YtkpbnbnfgadkcaaGreatDoorRefC
namespace Go.Proofs.YtkpbnbnfgadkcaaGreatDoor
open Go.RowKit
set_option linter.unusedVariables false
set_option linter.unusedSimpArgs false

theorem names_any (A B : Option Addr) (n m c d : Nat) (xs ys : List ByteArray) (w : World) (S T : Nat → Prop)
    (hx : SlV rStr w S xs (.slice A n c)) (hy : SlV rStr w T ys (.slice B m d)) :
    Calls Tryz.prog 13 #[.slice A n c, .slice B m d] w fun e w' => e = .returned (.bool (decide (xs = ys))) ∧ ∃ k, w' = w.drewN k := by
  have hnx := hx.n_eq
  have hny := hy.n_eq
  have hcx := hx.cap_le
  have hcy := hy.cap_le
  unfold maxLen at hcx hcy
  by_cases hnm : n = m
  · have hb : ((n : Int) != (m : Int)) = false := by simp [hnm]
    have hn63 : n ≤ 9223372036854775807 := by omega
    have Hnm := Lib.hid hnm; clear hnm
    have Hnx := Lib.hid hnx; clear hnx
    have Hny := Lib.hid hny; clear hny
    clear hcx hcy
    go_enter Tryz.func13, Tryz.ntmps13
    go_wp2
    go_loopw [5] (fun i wr => ∃ k : Nat, k ≤ n ∧ i = .int .i64 k ∧ Hid (xs.take k = ys.take k) ∧ ∃ q, wr = w.drewN q) (fun i _ => n - (intOf i).toNat)
    case atStart => exact ⟨0, Nat.zero_le _, rfl, by simp [Hid], 0, rfl⟩
    case round =>
      obtain ⟨k, hk, rfl, heq, q, rfl⟩ := hrel
      by_cases hlt : k < n
      · have hkx : k < xs.length := by have := Hnx.out; omega
        have hky : k < ys.length := by have := Hny.out; have := Hnm.out; omega
        have hkm : k < m := by have := Hnm.out; omega
        obtain ⟨b, o, cs, rfl, _, hb1, ⟨rfl, hl1⟩, hcell⟩ := hx.elem (List.getElem?_eq_getElem hkx)
        obtain ⟨b', o', cs', rfl, _, hb2, ⟨rfl, hl2⟩, hcell'⟩ := hy.elem (List.getElem?_eq_getElem hky)
        have hc1 := hcell 0 _ rfl
        have hc2 := hcell' 0 _ rfl
        simp only [rStr, Nat.mul_one, Nat.add_zero] at hc1 hc2
        clear hcell hcell'
        have hne := fun h => ne_at hkx hky h
        have hen := fun h => take_next heq.out hkx hky h
        have Hne := Lib.hid hne; clear hne
        have Hen := Lib.hid hen; clear hen
        generalize xs[k] = s1 at *
        generalize ys[k] = s2 at *
        have hkn : (k : Int) < (n : Int) := by omega
        have hkm' : (k : Int) < (m : Int) := by omega
        go_wp2_with fail
        go_quiet (fail)
        go_wp2_with fail
        · go_ret
          exact ⟨ret_bool (by simpa using Hne.out (bytes_ne (by assumption))), q + nq, World.drewN_drewN _ _ _⟩
        · go_roundw
          case rel => exact ⟨k + 1, by omega, by go_num, Hen.out (bytes_eq (by assumption)), q + nq, by first | rfl | exact World.drewN_drewN _ _ _⟩
          case measure => simp [intOf]; omega
      · go_wp2
        go_ret
        exact ⟨ret_bool (by simpa using eq_of_takes heq.out (by have := Hnx.out; omega) (by have := Hny.out; have := Hnm.out; omega)), q, rfl⟩
  · have hb : ((n : Int) != (m : Int)) = true := by simp; omega
    go_enter Tryz.func13, Tryz.ntmps13
    go_wp2
    go_ret
    exact ⟨ret_bool (by symm; simp; rintro rfl; omega), 0, rfl⟩
end Go.Proofs.YtkpbnbnfgadkcaaGreatDoor
namespace Go.Proofs.YtkpbnbnfgadkcaaGreatDoor
open Go.RowKit
set_option maxRecDepth 100000
set_option linter.unusedVariables false
set_option linter.unusedSimpArgs false

set_option maxHeartbeats 1600000 in
theorem same_yes (A B : Option Addr) (n m c d : Nat) (l : List Spot) (w : World) (S T : Nat → Prop) (hn63 : n ≤ 9223372036854775807)
    (hx : SlV rSpot w S l (.slice A n c)) (hy : SlV rSpot w T l (.slice B m d)) :
    Calls Tryz.prog 9 #[.slice A n c, .slice B m d] w fun e w' => e = .returned (.bool true) ∧ ∃ k, w' = w.drewN k := by
  have hnx := hx.n_eq
  have hny := hy.n_eq
  have hnm : n = m := by omega
  have hb : ((n : Int) != (m : Int)) = false := by simp [hnm]
  have Hnm := Lib.hid hnm; clear hnm
  have Hnx := Lib.hid hnx; clear hnx
  have Hny := Lib.hid hny; clear hny
  go_enter Tryz.func9, Tryz.ntmps9
  go_wp2
  go_loopw [5] (fun i wr => ∃ k : Nat, k ≤ n ∧ i = .int .i64 k ∧ Hid (∃ q, wr = w.drewN q)) (fun i _ => n - (intOf i).toNat)
  case atStart => exact ⟨0, Nat.zero_le _, rfl, ⟨0, rfl⟩⟩
  case round =>
    obtain ⟨k, hk, rfl, hq⟩ := hrel
    have hxw : SlV rSpot wr S l (.slice A n c) := by obtain ⟨q, e⟩ := hq.out; rw [e]; exact hx.drewN q
    have hyw : SlV rSpot wr T l (.slice B m d) := by obtain ⟨q, e⟩ := hq.out; rw [e]; exact hy.drewN q
    by_cases hlt : k < n
    · have hkx : k < l.length := by have := Hnx.out; omega
      have hkm : k < m := by have := Hnm.out; omega
      obtain ⟨b, o, cs, rfl, _, hb1, hsp, hcell⟩ := hxw.elem (List.getElem?_eq_getElem hkx)
      obtain ⟨b', o', cs', rfl, _, hb2, hsp', hcell'⟩ := hyw.elem (List.getElem?_eq_getElem hkx)
      obtain ⟨p, rfl, hp, _, _⟩ := hsp
      obtain ⟨p', rfl, hp', _, _⟩ := hsp'
      obtain ⟨pA, pc, rfl, _, _⟩ := hp.val
      obtain ⟨pA', pc', rfl, _, _⟩ := hp'.val
      have hc0 := hcell 0 _ rfl
      have hc1 := hcell 1 _ rfl
      have hc2 := hcell 2 _ rfl
      have hd0 := hcell' 0 _ rfl
      have hd1 := hcell' 1 _ rfl
      have hd2 := hcell' 2 _ rfl
      simp only [rSpot, Nat.add_zero] at hc0 hc1 hc2 hd0 hd1 hd2
      clear hcell hcell'
      have HC : Hid (∀ j, Calls Tryz.prog 13 #[.slice pA (l[k]).path.length pc, .slice pA' (l[k]).path.length pc'] (wr.drewN j) fun e w' => e = .returned (.bool true) ∧ ∃ i, w' = (wr.drewN j).drewN i) := fun j =>
        (names_any pA pA' _ _ pc pc' _ _ (wr.drewN j) S T (hp.drewN j) (hp'.drewN j)).mono fun e w' ⟨h1, h2⟩ => ⟨by rw [h1]; simp, h2⟩
      clear hp hp'
      generalize (l[k]).path.length = pn at *
      generalize (l[k]).x = x at *
      generalize (l[k]).y = y at *
      have hkn : (k : Int) < (n : Int) := by omega
      have hkm' : (k : Int) < (m : Int) := by omega
      go_wp2_with fail
      go_quiet ((go_at_call 13; exact Calls.quiet_of (HC.out _)))
      go_wp2_with fail
      go_roundw
      case rel => exact ⟨k + 1, by omega, by go_num, by obtain ⟨q, e⟩ := hq.out; exact ⟨q + nq, by rw [e, World.drewN_drewN]⟩⟩
      case measure => simp [intOf]; omega
    · go_wp2
      go_ret
      exact ⟨rfl, hq.out⟩

theorem known_any (w : World) : Calls Tryz.prog 10 #[] w fun e w' => e = .returned (.bool true) ∧ Below w.heap.size w w' := by
  have hT : ∀ path, Hid (twistR [⟨path, 2, 1⟩] 3 (-1) = some [⟨path, 7, 1⟩]) := fun path => by
    unfold Hid; simp [twistR, twistOk, mayB, farB, smallB, twistF]
  have hQ : ∀ path, Hid (turnR [⟨path, 2, 1⟩] (-1) = some [⟨path, 1, -2⟩]) := fun path => by
    have : quarters (-1) = 3 := by decide
    unfold Hid; simp [turnR, mayB, farB, turnF, twistF, this, quart]
  have h1 : ∀ W : World, SlV rStr (W.alloc (.cells #[.string ⟨#[97]⟩] 9)) (fun _ => True) [⟨#[97]⟩] (.slice (some ⟨W.heap.size, 0, none⟩) 1 1) := fun W =>
    SlV.of_block (heap_new W _) (Elems.one_ (r := rStr) (x := ⟨#[97]⟩) (cs := [.string ⟨#[97]⟩]) ⟨rfl, by decide⟩) trivial rfl (by decide) (by decide)
  have h2 : SlV rSpot ((w.alloc (.cells #[.string ⟨#[97]⟩] 9)).alloc (.cells #[.slice (some ⟨w.heap.size, 0, none⟩) 1 1, .int .i64 2, .int .i64 1] 38)) (fun _ => True) [⟨[⟨#[97]⟩], 2, 1⟩] (.slice (some ⟨w.heap.size + 1, 0, none⟩) 1 1) := by
    have := heap_new (w.alloc (.cells #[.string ⟨#[97]⟩] 9)) (.cells #[.slice (some ⟨w.heap.size, 0, none⟩) 1 1, .int .i64 2, .int .i64 1] 38)
    rw [show (w.alloc (.cells #[.string ⟨#[97]⟩] 9)).heap.size = w.heap.size + 1 from by simp] at this
    exact SlV.of_block this (Elems.one_ (r := rSpot) (x := ⟨[⟨#[97]⟩], 2, 1⟩) (cs := [.slice (some ⟨w.heap.size, 0, none⟩) 1 1, .int .i64 2, .int .i64 1]) ⟨_, rfl, (h1 w).alloc _, by unfold I64; decide, by unfold I64; decide⟩) trivial rfl (by decide) (by decide)
  have hb0 : Below w.heap.size w ((w.alloc (.cells #[.string ⟨#[97]⟩] 9)).alloc (.cells #[.slice (some ⟨w.heap.size, 0, none⟩) 1 1, .int .i64 2, .int .i64 1] 38)) :=
    ((Below.refl _ _).alloc (Nat.le_refl _) _).alloc (by simp) _
  have H2 := Lib.hid h2; clear h2
  clear h1
  go_enter Tryz.func10, Tryz.ntmps10
  go_wp2_with fail
  generalize (w.alloc (.cells #[.string ⟨#[97]⟩] 9)).alloc (.cells #[.slice (some ⟨w.heap.size, 0, none⟩) 1 1, .int .i64 2, .int .i64 1] 38) = w1 at *
  refine (chTwist_any _ 1 1 3 (-1) [⟨[⟨#[97]⟩], 2, 1⟩] w1 _ (by decide) (by simp) (by unfold I64; decide) (by unfold I64; decide) H2.out).mono ?_
  rintro e w2 ⟨v, rfl, hv, hb2⟩
  rw [(hT _).out] at hv
  obtain ⟨vA, vc, rfl, _, _⟩ := hv.val
  have hv' := hv
  obtain ⟨b, o, cs, rfl, _, hlt, hsp, hcell⟩ := hv'.elem (i := 0) rfl
  obtain ⟨p, rfl, hp, _, _⟩ := hsp
  have hc1 := hcell 1 _ rfl
  have hc2 := hcell 2 _ rfl
  simp [rSpot] at hc1 hc2
  clear hv hv' hcell hp
  have H3 := Lib.hid (H2.out.belowSize hb2)
  rw [(hT _).out]
  simp only [codeOf, Option.isSome_some, if_true, Option.getD_some, List.length_cons, List.length_nil, Nat.zero_add]
  go_wp2_with fail
  refine (chTurn_any _ 1 1 (-1) [⟨[⟨#[97]⟩], 2, 1⟩] w2 _ (by decide) (by simp) (by unfold I64; decide) H3.out).mono ?_
  rintro e w3 ⟨v, rfl, hv, hb3⟩
  rw [(hQ _).out] at hv
  obtain ⟨vA, vc, rfl, _, _⟩ := hv.val
  have hv' := hv
  obtain ⟨b', o', cs, rfl, _, hlt', hsp, hcell⟩ := hv'.elem (i := 0) rfl
  obtain ⟨p, rfl, hp, _, _⟩ := hsp
  have hd1 := hcell 1 _ rfl
  have hd2 := hcell 2 _ rfl
  simp [rSpot] at hd1 hd2
  clear hv hv' hcell hp
  rw [(hQ _).out]
  simp only [codeOf, Option.isSome_some, if_true, Option.getD_some, List.length_cons, List.length_nil, Nat.zero_add]
  have hc1' := below_cell hb3 hc1 hlt
  have hc2' := below_cell hb3 hc2 hlt
  go_wp2
  go_ret
  exact ⟨rfl, (hb0.trans (hb2.mono hb0.size)).trans (hb3.mono (Nat.le_trans hb0.size hb2.size))⟩
end Go.Proofs.YtkpbnbnfgadkcaaGreatDoor
namespace Go.Proofs.YtkpbnbnfgadkcaaGreatDoor
open Go.RowKit
set_option maxRecDepth 100000
set_option linter.unusedVariables false
set_option linter.unusedSimpArgs false

set_option maxHeartbeats 1600000 in
theorem alike_yes (A B : Option Addr) (n m c d : Nat) (l : List Spot) (w : World) (S T : Nat → Prop) (hn63 : n ≤ 9223372036854775807)
    (hx : SlV rSpot w S l (.slice A n c)) (hy : SlV rSpot w T l (.slice B m d)) :
    Calls Tryz.prog 15 #[.slice A n c, .slice B m d] w fun e w' => e = .returned (.bool true) ∧ ∃ k, w' = w.drewN k := by
  have hnx := hx.n_eq
  have hny := hy.n_eq
  have hnm : n = m := by omega
  have hb : ((n : Int) != (m : Int)) = false := by simp [hnm]
  have Hnm := Lib.hid hnm; clear hnm
  have Hnx := Lib.hid hnx; clear hnx
  have Hny := Lib.hid hny; clear hny
  go_enter Tryz.func15, Tryz.ntmps15
  go_wp2
  go_loopw [5] (fun i wr => ∃ k : Nat, k ≤ n ∧ i = .int .i64 k ∧ Hid (∃ q, wr = w.drewN q)) (fun i _ => n - (intOf i).toNat)
  case atStart => exact ⟨0, Nat.zero_le _, rfl, ⟨0, rfl⟩⟩
  case round =>
    obtain ⟨k, hk, rfl, hq⟩ := hrel
    have hxw : SlV rSpot wr S l (.slice A n c) := by obtain ⟨q, e⟩ := hq.out; rw [e]; exact hx.drewN q
    have hyw : SlV rSpot wr T l (.slice B m d) := by obtain ⟨q, e⟩ := hq.out; rw [e]; exact hy.drewN q
    by_cases hlt : k < n
    · have hkx : k < l.length := by have := Hnx.out; omega
      have hkm : k < m := by have := Hnm.out; omega
      obtain ⟨b, o, cs, rfl, _, hb1, hsp, hcell⟩ := hxw.elem (List.getElem?_eq_getElem hkx)
      obtain ⟨b', o', cs', rfl, _, hb2, hsp', hcell'⟩ := hyw.elem (List.getElem?_eq_getElem hkx)
      obtain ⟨p, rfl, hp, _, _⟩ := hsp
      obtain ⟨p', rfl, hp', _, _⟩ := hsp'
      obtain ⟨pA, pc, rfl, _, _⟩ := hp.val
      obtain ⟨pA', pc', rfl, _, _⟩ := hp'.val
      have hc0 := hcell 0 _ rfl
      have hc1 := hcell 1 _ rfl
      have hc2 := hcell 2 _ rfl
      have hd0 := hcell' 0 _ rfl
      have hd1 := hcell' 1 _ rfl
      have hd2 := hcell' 2 _ rfl
      simp only [rSpot, Nat.add_zero] at hc0 hc1 hc2 hd0 hd1 hd2
      clear hcell hcell'
      have HC : Hid (∀ j, Calls Tryz.prog 13 #[.slice pA (l[k]).path.length pc, .slice pA' (l[k]).path.length pc'] (wr.drewN j) fun e w' => e = .returned (.bool true) ∧ ∃ i, w' = (wr.drewN j).drewN i) := fun j =>
        (names_any pA pA' _ _ pc pc' _ _ (wr.drewN j) S T (hp.drewN j) (hp'.drewN j)).mono fun e w' ⟨h1, h2⟩ => ⟨by rw [h1]; simp, h2⟩
      clear hp hp'
      generalize (l[k]).path.length = pn at *
      generalize (l[k]).x = x at *
      generalize (l[k]).y = y at *
      have hkn : (k : Int) < (n : Int) := by omega
      have hkm' : (k : Int) < (m : Int) := by omega
      go_wp2_with fail
      go_quiet ((go_at_call 13; exact Calls.quiet_of (HC.out _)))
      go_wp2_with fail
      go_roundw
      case rel => exact ⟨k + 1, by omega, by go_num, by obtain ⟨q, e⟩ := hq.out; exact ⟨q + nq, by rw [e, World.drewN_drewN]⟩⟩
      case measure => simp [intOf]; omega
    · go_wp2
      go_ret
      exact ⟨rfl, hq.out⟩


/-- the sum of all points -/
def sumX (l : List Spot) : Int := (l.map (·.x)).sum
def sumY (l : List Spot) : Int := (l.map (·.y)).sum
theorem sum_far {l : List Spot} (h : ∀ s ∈ l, s.x.natAbs ≤ 1099511627776 ∧ s.y.natAbs ≤ 1099511627776) : (sumX l).natAbs ≤ l.length * 1099511627776 ∧ (sumY l).natAbs ≤ l.length * 1099511627776 := by
  induction l with
  | nil => simp [sumX, sumY]
  | cons s l ih =>
    obtain ⟨h1, h2⟩ := h s (by simp)
    obtain ⟨h3, h4⟩ := ih (fun s hs => h s (by simp [hs]))
    simp only [sumX, sumY, List.map_cons, List.sum_cons, List.length_cons, Nat.succ_mul] at *
    omega
theorem sum_snoc (l : List Spot) (s : Spot) : sumX (l ++ [s]) = sumX l + s.x ∧ sumY (l ++ [s]) = sumY l + s.y := by
  simp [sumX, sumY]

def weightOf (l : List Spot) : Int × Int := if mayB l then (sumX l, sumY l) else (0, 0)
def weightErr (l : List Spot) : Int := if mayB l then 0 else 1

end Go.Proofs.YtkpbnbnfgadkcaaGreatDoor
