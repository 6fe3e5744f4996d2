/-
  The document's order of texts, byte by byte, walked.
-/
import Derived.Test.YtminjjdnmpaaoaaGreatDoorRows
import Derived.Test.YtminjjdnmpaaoaaGreatDoorPp04
import Derived.WalkKit
import Derived.WalkSpells
import Derived.WalkLawsBesides
import Derived.IntWalk
import Derived.Lib.Hide
import Derived.Test.YtminjjdnmpaaoaaGreatDoorPp09
import Derived.Test.YtminjjdnmpaaoaaGreatDoorPp08
import Derived.Test.YtminjjdnmpaaoaaGreatDoorPp06
import Derived.Maps.Own
import Derived.Maps.OwnOps
import Derived.Maps.Views
import Derived.StringKeys
set_option autoImplicit false
set_option relaxedAutoImplicit false
set_option linter.unusedVariables false
set_option linter.unusedSimpArgs false
namespace Go.Proofs.YtminjjdnmpaaoaaGreatDoor
open Go.RowKit Go.Sort

def lessB (a b : ByteArray) : Bool := Op.bytesLess a.toList b.toList
theorem drop_at (s : ByteArray) {k : Nat} (h : k < s.size) : s.toList.drop k = s[k] :: s.toList.drop (k + 1) := by
  rw [Go.ByteArray.toList_eq]
  have h' : k < s.data.toList.length := by rw [Array.length_toList]; exact h
  rw [List.drop_eq_getElem_cons h']
  rfl
theorem drop_end (s : ByteArray) {k : Nat} (h : s.size ≤ k) : s.toList.drop k = [] := by
  rw [Go.ByteArray.toList_eq]
  exact List.drop_eq_nil_of_le (by rw [Array.length_toList]; exact h)
theorem bl_cons (x y : UInt8) (a b : List UInt8) : Op.bytesLess (x :: a) (y :: b) = (decide (x < y) || (x == y && Op.bytesLess a b)) := rfl

set_option maxHeartbeats 400000 in
theorem less_any (a b : ByteArray) (ha : a.size ≤ maxLen) (hb : b.size ≤ maxLen) (w : World) :
    Calls Tryz.prog 140 #[.string a, .string b] w fun e w' => e = .returned (.bool (lessB a b)) ∧ Below w.heap.size w w' := by
  unfold maxLen at ha hb
  have Hs : Hid (lessB a b = Op.bytesLess a.toList b.toList) := rfl
  generalize lessB a b = r at *
  go_enter Tryz.func140, Tryz.ntmps140
  go_wp2_with fail
  go_loopw [5] (fun i wr => ∃ k : Nat, k ≤ a.size ∧ k ≤ b.size ∧ i = .int .i64 k ∧ Hid (r = Op.bytesLess (a.toList.drop k) (b.toList.drop k)) ∧ Below w.heap.size w wr) (fun i _ => a.size - (intOf i).toNat)
  case atStart => exact ⟨0, Nat.zero_le _, Nat.zero_le _, rfl, by rw [List.drop_zero, List.drop_zero]; exact Hs, Below.refl _ _⟩
  case round =>
    obtain ⟨k, hka, hkb, rfl, hr, hbel⟩ := hrel
    have hk0 : (0 : Int) ≤ (k : Int) := by omega
    by_cases h1 : k < a.size
    · by_cases h2 : k < b.size
      · have hia : (k : Int) < (a.size : Int) := by omega
        have hib : (k : Int) < (b.size : Int) := by omega
        have Hst : Hid (r = (decide (a[k] < b[k]) || (a[k] == b[k] && Op.bytesLess (a.toList.drop (k + 1)) (b.toList.drop (k + 1))))) := by
          unfold Hid; rw [hr.out, drop_at a h1, drop_at b h2, bl_cons]
        by_cases he : a[k] = b[k]
        · have hne : (((a[k]).toNat : Int) != ((b[k]).toNat : Int)) = false := by rw [he]; simp
          have hn : Hid (r = Op.bytesLess (a.toList.drop (k + 1)) (b.toList.drop (k + 1))) := by
            unfold Hid; rw [Hst.out, he]; simp
          clear he hr
          go_wp2_with fail
          refine wp_region_qb (by kernel_rfl) (by kernel_rfl) ?_
          repeat (go_big_quiet_step (first | fail))
          refine wpQuiet_nil ?_
          intro w1 B1
          go_wp2_with fail
          go_roundw
          case rel => exact ⟨k + 1, by omega, by omega, by go_num, hn, bot hbel B1⟩
          case measure => simp [intOf]; omega
        · have hne' : (a[k]).toNat ≠ (b[k]).toNat := fun h => he (UInt8.toNat_inj.1 h)
          have hne : (((a[k]).toNat : Int) != ((b[k]).toNat : Int)) = true := by simp; omega
          have hn : Hid (r = decide (((a[k]).toNat : Int) < ((b[k]).toNat : Int))) := by
            unfold Hid; rw [Hst.out]
            have : (a[k] == b[k]) = false := by simpa using he
            rw [this, Bool.false_and, Bool.or_false]
            rw [Bool.eq_iff_iff]; simp [UInt8.lt_iff_toNat_lt]
          clear he hne' hr Hst
          go_wp2_with fail
          refine wp_region_qb (by kernel_rfl) (by kernel_rfl) ?_
          repeat (go_big_quiet_step (first | fail))
          refine wpQuiet_nil ?_
          intro w1 B1
          go_wp2_with fail
          refine wp_region_qb (by kernel_rfl) (by kernel_rfl) ?_
          repeat (go_big_quiet_step (first | fail))
          refine wpQuiet_nil ?_
          intro w2 B2
          go_wp2_with fail
          go_ret
          exact ⟨ret_bool (by rw [hn.out]; simp), bot hbel (bot B1 B2)⟩
      · have hn : Hid (r = decide ((a.size : Int) < (b.size : Int))) := by
          unfold Hid; rw [hr.out, drop_end b (by omega)]
          have : ¬ ((a.size : Int) < (b.size : Int)) := by omega
          rw [decide_eq_false this]
          cases a.toList.drop k <;> rfl
        have hib : ¬ (k : Int) < (b.size : Int) := by omega
        have hia : (k : Int) < (a.size : Int) := by omega
        clear hr
        go_wp2_with fail
        go_ret
        exact ⟨ret_bool (by rw [hn.out]; simp), hbel⟩
    · have hn : Hid (r = decide ((a.size : Int) < (b.size : Int))) := by
        unfold Hid; rw [hr.out, drop_end a (by omega)]
        by_cases h2 : k < b.size
        · rw [drop_at b h2, decide_eq_true (show (a.size : Int) < (b.size : Int) by omega)]; rfl
        · rw [drop_end b (by omega), decide_eq_false (show ¬ (a.size : Int) < (b.size : Int) by omega)]; rfl
      have hia : ¬ (k : Int) < (a.size : Int) := by omega
      clear hr
      go_wp2_with fail
      go_ret
      exact ⟨ret_bool (by rw [hn.out]; simp), hbel⟩
end Go.Proofs.YtminjjdnmpaaoaaGreatDoor
/-
  May of a list of dependencies: the program's and the document's, walked.
-/
set_option autoImplicit false
set_option relaxedAutoImplicit false
set_option linter.unusedVariables false
set_option linter.unusedSimpArgs false
namespace Go.Proofs.YtminjjdnmpaaoaaGreatDoor
open Go.Rows Go.RowKit Go.Shelf Go.Sort

def behind : Option ByteArray → ByteArray → Bool
  | none, _ => true
  | some a, b => lessB a b
def listGo : Option ByteArray → List Dep → Bool
  | _, [] => true
  | p, d :: l => (nameB d.name && (spansB d.range && (decide (d.range.length ≠ 0) && behind p d.name))) && listGo (some d.name) l
def listB (l : List Dep) : Bool := listGo none l && decide (l.length ≤ 16)
def prevName (l : List Dep) : Nat → Option ByteArray
  | 0 => none
  | q + 1 => (l[q]?).map (·.name)
theorem prevName_succ {l : List Dep} {q : Nat} (h : q < l.length) : prevName l (q + 1) = some l[q].name := by simp [prevName, List.getElem?_eq_getElem h]
theorem listGo_at {l : List Dep} {k : Nat} (h : k < l.length) : listGo (prevName l k) (l.drop k) =
    ((nameB l[k].name && (spansB l[k].range && (decide (l[k].range.length ≠ 0) && behind (prevName l k) l[k].name))) && listGo (prevName l (k + 1)) (l.drop (k + 1))) := by
  rw [List.drop_eq_getElem_cons h, prevName_succ h]; rfl

set_option maxHeartbeats 2000000 in
set_option maxRecDepth 100000 in
theorem list_any (A : Option Addr) (n c : Nat) (l : List Dep) (w : World) (S : Nat → Prop) (hl : SlV rDep w S l (.slice A n c)) :
    Calls Tryz.prog 125 #[.slice A n c] w fun e w' => e = .returned (.bool (listB l)) ∧ Below w.heap.size w w' := by
  have hnx := hl.n_eq
  have hcc := hl.cap_le
  unfold maxLen at hcc
  have hn63 : n ≤ 9223372036854775807 := by omega
  have hl' := hl.more (S' := fun b => b < w.heap.size) fun b _ hlt => hlt
  have Hs : Hid (listB l = (listGo none l && decide (n ≤ 16))) := by unfold Hid listB; rw [hnx]
  have Hnx := Lib.hid hnx; clear hnx
  clear hl hcc
  generalize listB l = r at *
  go_enter Tryz.func125, Tryz.ntmps125
  go_wp2_with fail
  go_loopw [7] (fun i wr => ∃ (k : Nat), k ≤ n ∧ i = .int .i64 k ∧ Hid (listGo none l = listGo (prevName l k) (l.drop k)) ∧ Below w.heap.size w wr) (fun i _ => n - (intOf i).toNat)
  case atStart => exact ⟨0, Nat.zero_le _, rfl, by simp [Hid, prevName], Below.refl _ _⟩
  case round =>
    obtain ⟨k, hk, rfl, hgo, hbel⟩ := hrel
    have hbw := hbel.size
    by_cases hlt : k < n
    · have hkx : k < l.length := by have := Hnx.out; omega
      have hlw := hl'.below hbel (fun b hb => hb)
      have hlw2 := Lib.hid hlw
      obtain ⟨b, o, cs, rfl, hSb, hbl, ⟨s0, rfl, hnm, hrg⟩, hcell⟩ := hlw.elem (List.getElem?_eq_getElem hkx)
      obtain ⟨pA, pc, rfl, hpc1, hpc2⟩ := hrg.val
      have c0 := hcell 0 _ rfl
      have c1 := hcell 1 _ rfl
      simp only [rDep, Nat.add_zero] at c0 c1
      clear hcell hlw
      have Hgo := Lib.hid (listGo_at hkx)
      have hk0 : (0 : Int) ≤ (k : Int) := by omega
      have hkn : (k : Int) < (n : Int) := by omega
      have Hc1 : Hid (∀ o : Obj, ∀ d os, Calls Tryz.prog 36 #[.string l[k].name] (grow (redrawn (wr.alloc o) d) os) fun e w'' => e = .returned (.bool (nameB l[k].name)) ∧ ∃ p : Regrown, w'' = grow (redrawn (wr.alloc o) p.d) p.os) := fun o => qcall (w := wr.alloc o) (fun W hW => scanName_any l[k].name hnm W)
      have Hc2 : Hid (∀ o : Obj, ∀ d os, Calls Tryz.prog 154 #[.slice pA l[k].range.length pc] (grow (redrawn (wr.alloc o) d) os) fun e w'' => e = .returned (.bool (spansB l[k].range)) ∧ ∃ p : Regrown, w'' = grow (redrawn (wr.alloc o) p.d) p.os) := fun o => qcall (w := wr.alloc o) (fun W hW => spanMay_any _ _ _ l[k].range W _ ((hrg.alloc o).belowSize hW))
      generalize hnam : l[k].name = nm at *
      generalize hrl : l[k].range.length = rl at *
      generalize hsp : spansB l[k].range = v2 at *
      generalize hv1 : nameB nm = v1 at *
      have Hgo' : Hid (listGo (prevName l k) (l.drop k) = ((v1 && (v2 && (decide (rl ≠ 0) && behind (prevName l k) nm))) && listGo (prevName l (k + 1)) (l.drop (k + 1)))) := by
        have := Hgo.out; try simp only [hnam, hrl, hsp, hv1] at this
        exact this
      clear Hgo hrl hsp hv1 hrg
      have Hnam := Lib.hid hnam; clear hnam
      have Hend : Hid ((v1 && (v2 && (decide (rl ≠ 0) && behind (prevName l k) nm))) = false → r = false) := fun h => by rw [Hs.out, hgo.out, Hgo'.out, h]; rfl
      have Hon : Hid ((v1 && (v2 && (decide (rl ≠ 0) && behind (prevName l k) nm))) = true → listGo none l = listGo (prevName l (k + 1)) (l.drop (k + 1))) := fun h => by rw [hgo.out, Hgo'.out, h, Bool.true_and]
      clear hgo Hgo'
      cases v1
      · have He := Lib.hid (Hend.out (rfl))
        clear Hend Hon
        go_wp2_with fail
        have a0 : (wr.alloc (.cells #[.string nm, .slice pA rl pc] 68)).cell? ⟨wr.heap.size, 0, none⟩ = some (.string nm) := by simp [go_sem]
        have a1 : (wr.alloc (.cells #[.string nm, .slice pA rl pc] 68)).cell? ⟨wr.heap.size, 1, none⟩ = some (.slice pA rl pc) := by simp [go_sem]
        have r_a0 := cell_regrown a0
        have r_a1 := cell_regrown a1
        refine wp_region_qb (by kernel_rfl) (by kernel_rfl) ?_
        repeat (go_big_quiet_step (first | (with_reducible exact Hc1.out _ _ _) | (with_reducible exact Hc2.out _ _ _)))
        refine wpQuiet_nil ?_
        intro w1 B1
        go_wp2_with fail
        go_ret
        exact ⟨ret_bool He.out.symm, bot (bal hbel _) B1⟩
      · cases v2
        · have He := Lib.hid (Hend.out (rfl))
          clear Hend Hon
          go_wp2_with fail
          have a0 : (wr.alloc (.cells #[.string nm, .slice pA rl pc] 68)).cell? ⟨wr.heap.size, 0, none⟩ = some (.string nm) := by simp [go_sem]
          have a1 : (wr.alloc (.cells #[.string nm, .slice pA rl pc] 68)).cell? ⟨wr.heap.size, 1, none⟩ = some (.slice pA rl pc) := by simp [go_sem]
          have r_a0 := cell_regrown a0
          have r_a1 := cell_regrown a1
          refine wp_region_qb (by kernel_rfl) (by kernel_rfl) ?_
          repeat (go_big_quiet_step (first | (with_reducible exact Hc1.out _ _ _) | (with_reducible exact Hc2.out _ _ _)))
          refine wpQuiet_nil ?_
          intro w1 B1
          go_wp2_with fail
          go_ret
          exact ⟨ret_bool He.out.symm, bot (bal hbel _) B1⟩
        · by_cases hz : rl = 0
          · have hzb : ((rl : Int) == 0) = true := by simp [hz]
            have Hz0 := Lib.hid hz; clear hz
            have He := Lib.hid (Hend.out (by simp [Hz0.out]))
            clear Hend Hon
            go_wp2_with fail
            have a0 : (wr.alloc (.cells #[.string nm, .slice pA rl pc] 68)).cell? ⟨wr.heap.size, 0, none⟩ = some (.string nm) := by simp [go_sem]
            have a1 : (wr.alloc (.cells #[.string nm, .slice pA rl pc] 68)).cell? ⟨wr.heap.size, 1, none⟩ = some (.slice pA rl pc) := by simp [go_sem]
            have r_a0 := cell_regrown a0
            have r_a1 := cell_regrown a1
            refine wp_region_qb (by kernel_rfl) (by kernel_rfl) ?_
            repeat (go_big_quiet_step (first | (with_reducible exact Hc1.out _ _ _) | (with_reducible exact Hc2.out _ _ _)))
            refine wpQuiet_nil ?_
            intro w1 B1
            go_wp2_with fail
            go_ret
            exact ⟨ret_bool He.out.symm, bot (bal hbel _) B1⟩
          · have hzb : ((rl : Int) == 0) = false := by simp [hz]
            have hzd : decide (rl ≠ 0) = true := by simp [hz]
            have Hz := Lib.hid hzd; clear hz hzd
            by_cases hk00 : k = 0
            · have hkz : decide (0 < k) = false := by simp [hk00]
              have He := Lib.hid (Hon.out (by rw [Hz.out, hk00]; rfl))
              clear hk00
              clear Hend Hon
              go_wp2_with fail
              have a0 : (wr.alloc (.cells #[.string nm, .slice pA rl pc] 68)).cell? ⟨wr.heap.size, 0, none⟩ = some (.string nm) := by simp [go_sem]
              have a1 : (wr.alloc (.cells #[.string nm, .slice pA rl pc] 68)).cell? ⟨wr.heap.size, 1, none⟩ = some (.slice pA rl pc) := by simp [go_sem]
              have r_a0 := cell_regrown a0
              have r_a1 := cell_regrown a1
              refine wp_region_qb (by kernel_rfl) (by kernel_rfl) ?_
              repeat (go_big_quiet_step (first | (with_reducible exact Hc1.out _ _ _) | (with_reducible exact Hc2.out _ _ _)))
              refine wpQuiet_nil ?_
              intro w1 B1
              go_wp2_with fail
              go_roundw
              case rel => exact ⟨k + 1, by omega, by go_num, He, bot (bal hbel _) B1⟩
              case measure => simp [intOf]; omega
            · obtain ⟨q, rfl⟩ : ∃ q, k = q + 1 := ⟨k - 1, by omega⟩
              clear hk00
              have hqx : q < l.length := by omega
              obtain ⟨b', o', cs', hA', _, hbl', ⟨s1, rfl, hnm', hrg'⟩, hcell'⟩ := hlw2.out.elem (List.getElem?_eq_getElem hqx)
              injection hA' with hA'
              injection hA' with hb' ho' _
              subst hb' ho'
              have e0 := hcell' 0 _ rfl
              simp only [rDep, Nat.add_zero] at e0
              have Hpq := Lib.hid (prevName_succ hqx)
              clear hcell' hlw2 hrg'
              generalize l[q].name = pn at *
              have hw1 : IntKind.i64.wrap ((q : Int) + 1 - 1) = (q : Int) := (IntWalk.i64_in _ ⟨by omega, by omega⟩).trans (by omega)
              have hw2 : IntKind.i64.wrap (q : Int) = (q : Int) := IntWalk.i64_in _ ⟨by omega, by omega⟩
              have hq0 : (0 : Int) ≤ (q : Int) := by omega
              have hqn : (q : Int) < (n : Int) := by omega
              have hq1 : (0 : Int) < (q : Int) + 1 := by omega
              have hq2 : (q : Int) + 1 < (n : Int) := by omega
              have hq3 : (0 : Int) ≤ (q : Int) + 1 := by omega
              have a2 : (wr.alloc (.cells #[.string nm, .slice pA rl pc] 68)).cell? ⟨b, o + q * 2, none⟩ = some (.string pn) := (cell_same (Below.heap_alloc wr _ b hbl) _ _).trans e0
              have r_a2 := cell_regrown a2
              clear e0
              cases hls : Op.bytesLess pn.toList nm.toList
              · have He := Lib.hid (Hend.out (by rw [Hz.out, Hpq.out]; simp only [behind, lessB]; rw [hls]; rfl))
                clear Hend Hon
                go_wp2_with fail
                have a0 : (wr.alloc (.cells #[.string nm, .slice pA rl pc] 68)).cell? ⟨wr.heap.size, 0, none⟩ = some (.string nm) := by simp [go_sem]
                have a1 : (wr.alloc (.cells #[.string nm, .slice pA rl pc] 68)).cell? ⟨wr.heap.size, 1, none⟩ = some (.slice pA rl pc) := by simp [go_sem]
                have r_a0 := cell_regrown a0
                have r_a1 := cell_regrown a1
                refine wp_region_qb (by kernel_rfl) (by kernel_rfl) ?_
                repeat (go_big_quiet_step (first | (with_reducible exact Hc1.out _ _ _) | (with_reducible exact Hc2.out _ _ _)))
                refine wpQuiet_nil ?_
                intro w1 B1
                go_wp2_with fail
                go_ret
                exact ⟨ret_bool He.out.symm, bot (bal hbel _) B1⟩
              · have He := Lib.hid (Hon.out (by rw [Hz.out, Hpq.out]; simp only [behind, lessB]; rw [hls]; rfl))
                clear Hend Hon
                go_wp2_with fail
                have a0 : (wr.alloc (.cells #[.string nm, .slice pA rl pc] 68)).cell? ⟨wr.heap.size, 0, none⟩ = some (.string nm) := by simp [go_sem]
                have a1 : (wr.alloc (.cells #[.string nm, .slice pA rl pc] 68)).cell? ⟨wr.heap.size, 1, none⟩ = some (.slice pA rl pc) := by simp [go_sem]
                have r_a0 := cell_regrown a0
                have r_a1 := cell_regrown a1
                refine wp_region_qb (by kernel_rfl) (by kernel_rfl) ?_
                repeat (go_big_quiet_step (first | (with_reducible exact Hc1.out _ _ _) | (with_reducible exact Hc2.out _ _ _)))
                refine wpQuiet_nil ?_
                intro w1 B1
                go_wp2_with fail
                go_roundw
                case rel => exact ⟨q + 1 + 1, by omega, by go_num, He, bot (bal hbel _) B1⟩
                case measure => simp [intOf]; omega
    · have He : Hid (r = decide ((n : Int) ≤ 16)) := by
        unfold Hid
        rw [Hs.out, hgo.out, List.drop_eq_nil_of_le (by have := Hnx.out; omega)]
        rw [show listGo (prevName l k) [] = true from rfl, Bool.true_and]
        rw [Bool.eq_iff_iff]; simp; omega
      clear hgo
      have hkn : ¬ (k : Int) < (n : Int) := by omega
      go_wp2_with fail
      go_ret
      exact ⟨ret_bool He.out.symm, hbel⟩

set_option maxHeartbeats 2000000 in
set_option maxRecDepth 100000 in
theorem refList_any (A : Option Addr) (n c : Nat) (l : List Dep) (w : World) (S : Nat → Prop) (hl : SlV rDep w S l (.slice A n c)) :
    Calls Tryz.prog 105 #[.slice A n c] w fun e w' => e = .returned (.bool (listB l)) ∧ Below w.heap.size w w' := by
  have hnx := hl.n_eq
  have hcc := hl.cap_le
  unfold maxLen at hcc
  have hn63 : n ≤ 9223372036854775807 := by omega
  have hl' := hl.more (S' := fun b => b < w.heap.size) fun b _ hlt => hlt
  have Hs : Hid (listB l = (listGo none l && decide (n ≤ 16))) := by unfold Hid listB; rw [hnx]
  have Hnx := Lib.hid hnx; clear hnx
  clear hl hcc
  generalize listB l = r at *
  go_enter Tryz.func105, Tryz.ntmps105
  go_wp2_with fail
  go_loopw [3] (fun i wr => ∃ (k : Nat), k ≤ n ∧ i = .int .i64 k ∧ Hid (listGo none l = listGo (prevName l k) (l.drop k)) ∧ Below w.heap.size w wr) (fun i _ => n - (intOf i).toNat)
  case atStart => exact ⟨0, Nat.zero_le _, rfl, by simp [Hid, prevName], Below.refl _ _⟩
  case round =>
    obtain ⟨k, hk, rfl, hgo, hbel⟩ := hrel
    have hbw := hbel.size
    by_cases hlt : k < n
    · have hkx : k < l.length := by have := Hnx.out; omega
      have hlw := hl'.below hbel (fun b hb => hb)
      have hlw2 := Lib.hid hlw
      obtain ⟨b, o, cs, rfl, hSb, hbl, ⟨s0, rfl, hnm, hrg⟩, hcell⟩ := hlw.elem (List.getElem?_eq_getElem hkx)
      obtain ⟨pA, pc, rfl, hpc1, hpc2⟩ := hrg.val
      have c0 := hcell 0 _ rfl
      have c1 := hcell 1 _ rfl
      simp only [rDep, Nat.add_zero] at c0 c1
      clear hcell hlw
      have Hgo := Lib.hid (listGo_at hkx)
      have hk0 : (0 : Int) ≤ (k : Int) := by omega
      have hkn : (k : Int) < (n : Int) := by omega
      have Hc1 : Hid (∀ d os, Calls Tryz.prog 97 #[.string l[k].name] (grow (redrawn wr d) os) fun e w'' => e = .returned (.bool (nameB l[k].name)) ∧ ∃ p : Regrown, w'' = grow (redrawn wr p.d) p.os) := qcall (w := wr) (fun W hW => (refName_any l[k].name hnm W).mono fun e w' ⟨he, hw⟩ => ⟨he, hw ▸ Below.refl _ _⟩)
      have Hc2 : Hid (∀ d os, Calls Tryz.prog 139 #[.slice pA l[k].range.length pc] (grow (redrawn wr d) os) fun e w'' => e = .returned (.bool (spansB l[k].range)) ∧ ∃ p : Regrown, w'' = grow (redrawn wr p.d) p.os) := qcall (w := wr) (fun W hW => refSpanMay_any _ _ _ l[k].range W _ (hrg.belowSize hW))
      generalize hnam : l[k].name = nm at *
      generalize hrl : l[k].range.length = rl at *
      generalize hsp : spansB l[k].range = v2 at *
      generalize hv1 : nameB nm = v1 at *
      have Hgo' : Hid (listGo (prevName l k) (l.drop k) = ((v1 && (v2 && (decide (rl ≠ 0) && behind (prevName l k) nm))) && listGo (prevName l (k + 1)) (l.drop (k + 1)))) := by
        have := Hgo.out; try simp only [hnam, hrl, hsp, hv1] at this
        exact this
      clear Hgo hrl hsp hv1 hrg
      have Hnam := Lib.hid hnam; clear hnam
      have Hend : Hid ((v1 && (v2 && (decide (rl ≠ 0) && behind (prevName l k) nm))) = false → r = false) := fun h => by rw [Hs.out, hgo.out, Hgo'.out, h]; rfl
      have Hon : Hid ((v1 && (v2 && (decide (rl ≠ 0) && behind (prevName l k) nm))) = true → listGo none l = listGo (prevName l (k + 1)) (l.drop (k + 1))) := fun h => by rw [hgo.out, Hgo'.out, h, Bool.true_and]
      clear hgo Hgo'
      have r_c0 := cell_regrown c0
      have r_c1 := cell_regrown c1
      cases v1
      · have He := Lib.hid (Hend.out (rfl))
        clear Hend Hon
        have Hc3 : Hid (∀ d os, Calls Tryz.prog 97 #[.string nm] (grow (redrawn wr d) os) fun e w'' => e = .returned (.bool false) ∧ ∃ p : Regrown, w'' = grow (redrawn wr p.d) p.os) := Hc1
        go_wp2_with fail
        refine wp_region_qb (by kernel_rfl) (by kernel_rfl) ?_
        repeat (go_big_quiet_step (first | (with_reducible exact Hc1.out _ _) | (with_reducible exact Hc2.out _ _) | (with_reducible exact Hc3.out _ _)))
        refine wpQuiet_nil ?_
        intro w1 B1
        go_wp2_with fail
        go_ret
        exact ⟨ret_bool He.out.symm, bot (hbel) B1⟩
      · cases v2
        · have He := Lib.hid (Hend.out (rfl))
          clear Hend Hon
          have Hc3 : Hid (∀ d os, Calls Tryz.prog 97 #[.string nm] (grow (redrawn wr d) os) fun e w'' => e = .returned (.bool true) ∧ ∃ p : Regrown, w'' = grow (redrawn wr p.d) p.os) := Hc1
          go_wp2_with fail
          refine wp_region_qb (by kernel_rfl) (by kernel_rfl) ?_
          repeat (go_big_quiet_step (first | (with_reducible exact Hc1.out _ _) | (with_reducible exact Hc2.out _ _) | (with_reducible exact Hc3.out _ _)))
          refine wpQuiet_nil ?_
          intro w1 B1
          go_wp2_with fail
          go_ret
          exact ⟨ret_bool He.out.symm, bot (hbel) B1⟩
        · by_cases hz : rl = 0
          · have hzb : ((rl : Int) == 0) = true := by simp [hz]
            have Hz0 := Lib.hid hz; clear hz
            have He := Lib.hid (Hend.out (by simp [Hz0.out]))
            clear Hend Hon
            have Hc3 : Hid (∀ d os, Calls Tryz.prog 97 #[.string nm] (grow (redrawn wr d) os) fun e w'' => e = .returned (.bool true) ∧ ∃ p : Regrown, w'' = grow (redrawn wr p.d) p.os) := Hc1
            go_wp2_with fail
            refine wp_region_qb (by kernel_rfl) (by kernel_rfl) ?_
            repeat (go_big_quiet_step (first | (with_reducible exact Hc1.out _ _) | (with_reducible exact Hc2.out _ _) | (with_reducible exact Hc3.out _ _)))
            refine wpQuiet_nil ?_
            intro w1 B1
            go_wp2_with fail
            go_ret
            exact ⟨ret_bool He.out.symm, bot (hbel) B1⟩
          · have hzb : ((rl : Int) == 0) = false := by simp [hz]
            have hzd : decide (rl ≠ 0) = true := by simp [hz]
            have Hz := Lib.hid hzd; clear hz hzd
            by_cases hk00 : k = 0
            · have hkz : decide (0 < k) = false := by simp [hk00]
              have He := Lib.hid (Hon.out (by rw [Hz.out, hk00]; rfl))
              clear hk00
              clear Hend Hon
              have Hc3 : Hid (∀ d os, Calls Tryz.prog 97 #[.string nm] (grow (redrawn wr d) os) fun e w'' => e = .returned (.bool true) ∧ ∃ p : Regrown, w'' = grow (redrawn wr p.d) p.os) := Hc1
              go_wp2_with fail
              refine wp_region_qb (by kernel_rfl) (by kernel_rfl) ?_
              repeat (go_big_quiet_step (first | (with_reducible exact Hc1.out _ _) | (with_reducible exact Hc2.out _ _) | (with_reducible exact Hc3.out _ _)))
              refine wpQuiet_nil ?_
              intro w1 B1
              go_wp2_with fail
              go_roundw
              case rel => exact ⟨k + 1, by omega, by go_num, He, bot (hbel) B1⟩
              case measure => simp [intOf]; omega
            · obtain ⟨q, rfl⟩ : ∃ q, k = q + 1 := ⟨k - 1, by omega⟩
              clear hk00
              have hqx : q < l.length := by omega
              obtain ⟨b', o', cs', hA', _, hbl', ⟨s1, rfl, hnm', hrg'⟩, hcell'⟩ := hlw2.out.elem (List.getElem?_eq_getElem hqx)
              injection hA' with hA'
              injection hA' with hb' ho' _
              subst hb' ho'
              have e0 := hcell' 0 _ rfl
              simp only [rDep, Nat.add_zero] at e0
              have Hpq := Lib.hid (prevName_succ hqx)
              clear hcell' hlw2 hrg'
              generalize l[q].name = pn at *
              have hw1 : IntKind.i64.wrap ((q : Int) + 1 - 1) = (q : Int) := (IntWalk.i64_in _ ⟨by omega, by omega⟩).trans (by omega)
              have hw2 : IntKind.i64.wrap (q : Int) = (q : Int) := IntWalk.i64_in _ ⟨by omega, by omega⟩
              have hq0 : (0 : Int) ≤ (q : Int) := by omega
              have hqn : (q : Int) < (n : Int) := by omega
              have hq1 : (0 : Int) < (q : Int) + 1 := by omega
              have hq2 : (q : Int) + 1 < (n : Int) := by omega
              have hq3 : (0 : Int) ≤ (q : Int) + 1 := by omega
              have Hc3 := Lib.hid (qcall (w := wr) (fun W hW => less_any pn nm hnm' hnm W))
              have r_e0 := cell_regrown e0
              cases hls : lessB pn nm
              · have He := Lib.hid (Hend.out (by rw [Hz.out, Hpq.out]; simp only [behind]; rw [hls]; rfl))
                clear Hend Hon
                rw [hls] at Hc3
                have Hls := Lib.hid hls; clear hls
                go_wp2_with fail
                refine wp_region_qb (by kernel_rfl) (by kernel_rfl) ?_
                repeat (go_big_quiet_step (first | (with_reducible exact Hc1.out _ _) | (with_reducible exact Hc2.out _ _) | (with_reducible exact Hc3.out _ _)))
                refine wpQuiet_nil ?_
                intro w1 B1
                go_wp2_with fail
                go_ret
                exact ⟨ret_bool He.out.symm, bot (hbel) B1⟩
              · have He := Lib.hid (Hon.out (by rw [Hz.out, Hpq.out]; simp only [behind]; rw [hls]; rfl))
                clear Hend Hon
                rw [hls] at Hc3
                have Hls := Lib.hid hls; clear hls
                go_wp2_with fail
                refine wp_region_qb (by kernel_rfl) (by kernel_rfl) ?_
                repeat (go_big_quiet_step (first | (with_reducible exact Hc1.out _ _) | (with_reducible exact Hc2.out _ _) | (with_reducible exact Hc3.out _ _)))
                refine wpQuiet_nil ?_
                intro w1 B1
                go_wp2_with fail
                go_roundw
                case rel => exact ⟨q + 1 + 1, by omega, by go_num, He, bot (hbel) B1⟩
                case measure => simp [intOf]; omega
    · have He : Hid (r = decide ((n : Int) ≤ 16)) := by
        unfold Hid
        rw [Hs.out, hgo.out, List.drop_eq_nil_of_le (by have := Hnx.out; omega)]
        rw [show listGo (prevName l k) [] = true from rfl, Bool.true_and]
        rw [Bool.eq_iff_iff]; simp; omega
      clear hgo
      have hkn : ¬ (k : Int) < (n : Int) := by omega
      go_wp2_with fail
      go_ret
      exact ⟨ret_bool He.out.symm, hbel⟩
end Go.Proofs.YtminjjdnmpaaoaaGreatDoor
/-
  No name stands twice: the program's apart (a map that counts) and the document's Apart, walked.
-/
set_option autoImplicit false
set_option relaxedAutoImplicit false
set_option linter.unusedVariables false
set_option linter.unusedSimpArgs false
namespace Go.Proofs.YtminjjdnmpaaoaaGreatDoor
open Go.RowKit Go.Sort Go.Maps

noncomputable def nodupB (l : List ByteArray) : Bool := @decide l.Nodup (Classical.propDecidable _)
theorem nodupB_true {l : List ByteArray} (h : l.Nodup) : nodupB l = true := by unfold nodupB; exact @decide_eq_true _ (Classical.propDecidable _) h
theorem nodupB_false {l : List ByteArray} (h : ¬ l.Nodup) : nodupB l = false := by unfold nodupB; exact @decide_eq_false _ (Classical.propDecidable _) h
noncomputable def cnt (x : ByteArray) (l : List ByteArray) : Int := @ite Int (x ∈ l) (Classical.propDecidable _) 1 0
theorem cnt_in {x : ByteArray} {l : List ByteArray} (h : x ∈ l) : cnt x l = 1 := by unfold cnt; exact @if_pos _ (Classical.propDecidable _) h _ _ _
theorem cnt_out {x : ByteArray} {l : List ByteArray} (h : x ∉ l) : cnt x l = 0 := by unfold cnt; exact @if_neg _ (Classical.propDecidable _) h _ _ _
theorem cnt_bounds (x : ByteArray) (l : List ByteArray) : 0 ≤ cnt x l ∧ cnt x l ≤ 1 := by
  by_cases h : x ∈ l
  · rw [cnt_in h]; omega
  · rw [cnt_out h]; omega

theorem key_law : Keyed Tryz.prog 9 := string_keyed Tryz.underlying9
theorem int_zero (w : World) : (zeroValue 3).run Tryz.prog w = .ok (.int .i64 0) w := by kernel_rfl

/-- a map that counts the names of a list, each once -/
def MapC (w : World) (B : Nat) (l : List ByteArray) : Prop :=
  ∃ (n : Nat) (D : DataW Unit), w.ownsMap Tryz.prog 9 (plainElem Tryz.prog 3) B n D ∧ n ≤ l.length ∧ IsMap D ∧ ∀ s : ByteArray, D.atKey (.string s.data.toList) (.lit (.int .i64 0)) = .lit (.int .i64 (cnt s l))
theorem MapC.made (w : World) : MapC (w.alloc (.map #[] 0)) w.heap.size [] :=
  ⟨0, .map [], World.ownsMap_made _ _ _ _, Nat.le_refl _, isMap_empty, fun s => by rw [cnt_out (by simp)]; rfl⟩
theorem MapC.kept {w w' : World} {B : Nat} {l : List ByteArray} {row : Option Nat} (h : MapC w B l) (hg : w.grownBy w' row) (hne : some B ≠ row) : MapC w' B l := by
  obtain ⟨n, D, h1, h2⟩ := h
  exact ⟨n, D, h1.kept hg hne, h2⟩
theorem MapC.keep {w w' : World} {B : Nat} {l : List ByteArray} (h : MapC w B l) (hb : Below w.heap.size w w') : MapC w' B l :=
  h.kept (row := none) ⟨hb.os, hb.tape, hb.output, hb.size, fun k hk _ => hb.block k hk⟩ (by simp)
theorem MapC.lt {w : World} {B : Nat} {l : List ByteArray} (h : MapC w B l) : B < w.heap.size := by
  obtain ⟨n, D, h1, _⟩ := h
  exact h1.lt

theorem data_inj {a b : ByteArray} (h : a.data.toList = b.data.toList) : a = b := by
  apply ByteArray.ext
  exact Array.toList_inj.1 h

theorem seen_step {W : World} {B : Nat} {l : List ByteArray} {x : ByteArray} (h : MapC W B l) (hx : x.size ≤ maxLen) (hl : l.length ≤ 1000000000) :
    ∃ w', (Instr.lookup 219 (.map (some B)) (.string x) false).run Tryz.prog W = .ok (.int .i64 (cnt x l)) W ∧
      (Instr.mapUpdate 219 (.map (some B)) (.string x) (.int .i64 (cnt x l + 1))).run Tryz.prog W = .ok () w' ∧ W.grownBy w' (some B) ∧
      (Instr.lookup 219 (.map (some B)) (.string x) false).run Tryz.prog w' = .ok (.int .i64 (cnt x l + 1)) w' ∧ (x ∉ l → MapC w' B (l ++ [x])) := by
  obtain ⟨n, D, h1, h2, h3, h4⟩ := h
  have hkey := Go.WideMaps.keyOf_string_mk (P := Tryz.prog) Tryz.underlying9 hx
  obtain ⟨c, r1, r2, r3⟩ := h1.lookup_int key_law Tryz.underlying219 Tryz.underlying3 (int_zero W) hkey
  have hc : c = cnt x l := by rw [h4 x] at r2; simpa using r2.symm
  subst hc
  have hb := cnt_bounds x l
  have hwf : (Lit.int .i64 (cnt x l + 1)).wf = true := WalkArith.wf_i64 (by omega)
  obtain ⟨w', r4, r5, r6⟩ := h1.update key_law Tryz.underlying219 (by unfold maxLen; omega) hkey (plainElem_int (H := Unit) Tryz.underlying3 hwf)
  obtain ⟨c', r7, r8, r9⟩ := r5.lookup_int key_law Tryz.underlying219 Tryz.underlying3 (int_zero w') hkey
  rw [atKey_put_same h3 (by trivial)] at r8
  have hc' : c' = cnt x l + 1 := by simpa using r8.symm
  subst hc'
  refine ⟨w', r1, r4, r6, r7, fun hnot => ⟨n + 1, _, r5, by simp; omega, h3.put _ _, fun s => ?_⟩⟩
  by_cases e : s = x
  · subst e
    rw [atKey_put_same h3 (by trivial), cnt_out hnot, cnt_in (by simp)]
    rfl
  · rw [atKey_put_other (fun he => e (data_inj (by simpa using he))), h4 s]
    by_cases hs : s ∈ l
    · rw [cnt_in hs, cnt_in (by simp [hs])]
    · rw [cnt_out hs, cnt_out (by simp [hs, e])]

def namesOf (l : List Dep) : List ByteArray := l.map (·.name)
def allNames (ls : List (List Dep)) : List ByteArray := (ls.map namesOf).flatten
theorem allNames_take {ls : List (List Dep)} {k : Nat} (h : k < ls.length) : allNames (ls.take (k + 1)) = allNames (ls.take k) ++ namesOf ls[k] := by
  unfold allNames
  rw [List.take_succ_eq_append_getElem h, List.map_append, List.flatten_append]
  simp only [List.map_cons, List.map_nil, List.flatten_cons, List.flatten_nil, List.append_nil]
theorem namesOf_take {l : List Dep} {k : Nat} (h : k < l.length) : namesOf (l.take (k + 1)) = namesOf (l.take k) ++ [l[k].name] := by
  unfold namesOf
  rw [List.take_succ_eq_append_getElem h, List.map_append]
  rfl
theorem allNames_split {ls : List (List Dep)} {k q : Nat} (h : k < ls.length) (hq : q < ls[k].length) : ∃ r, allNames ls = allNames (ls.take k) ++ (namesOf (ls[k].take (q + 1)) ++ r) := by
  refine ⟨namesOf (ls[k].drop (q + 1)) ++ allNames (ls.drop (k + 1)), ?_⟩
  have e1 : ls = ls.take k ++ (ls[k] :: ls.drop (k + 1)) := by rw [← List.drop_eq_getElem_cons h, List.take_append_drop]
  have e2 : namesOf ls[k] = namesOf (ls[k].take (q + 1)) ++ namesOf (ls[k].drop (q + 1)) := by
    unfold namesOf; rw [← List.map_append, List.take_append_drop]
  conv => lhs; rw [e1]
  simp only [allNames, List.map_append, List.map_cons, List.flatten_append, List.flatten_cons]
  rw [e2]; simp [List.append_assoc]
theorem not_nodup_of {l d : List ByteArray} {x : ByteArray} {r : List ByteArray} (h : l = d ++ ([x] ++ r)) (hx : x ∈ d) : ¬ l.Nodup := by
  intro hn
  rw [h] at hn
  have := (List.nodup_append.1 hn).2.2 x hx x (by simp)
  exact this rfl

set_option maxHeartbeats 1600000 in
set_option maxRecDepth 100000 in
theorem apart_any (A : Option Addr) (n c : Nat) (ls : List (List Dep)) (w : World) (S : Nat → Prop) (hmax : (allNames ls).length ≤ 1000000000) (hl : SlV (rSlice rDep) w S ls (.slice A n c)) :
    Calls Tryz.prog 126 #[.slice A n c] w fun e w' => e = .returned (.bool (nodupB (allNames ls))) ∧ Below w.heap.size w w' := by
  have hnx := hl.n_eq
  have hcc := hl.cap_le
  unfold maxLen at hcc
  have hn63 : n ≤ 9223372036854775807 := by omega
  have hl' := hl.more (S' := fun b => b < w.heap.size) fun b _ hlt => hlt
  have Hpos : Hid ((allNames ls).Nodup → nodupB (allNames ls) = true) := nodupB_true
  have Hneg : Hid (¬ (allNames ls).Nodup → nodupB (allNames ls) = false) := nodupB_false
  have Hnx := Lib.hid hnx; clear hnx
  have Hmax := Lib.hid hmax; clear hmax
  clear hl hcc
  generalize nodupB (allNames ls) = r at *
  have hmm := @run_makeMap Tryz.prog
  go_enter Tryz.func126, Tryz.ntmps126
  go_wp2_with fail
  clear hmm
  go_loopw [11] (fun i wr => ∃ (k : Nat), k ≤ n ∧ i = .int .i64 k ∧ Hid (MapC wr w.heap.size (allNames (ls.take k))) ∧ Hid ((allNames (ls.take k)).Nodup) ∧ Below w.heap.size w wr) (fun i _ => n - (intOf i).toNat)
  case atStart => exact ⟨0, Nat.zero_le _, rfl, MapC.made _, by simp [Hid, allNames], bal (Below.refl _ _) _⟩
  case round =>
    obtain ⟨k, hk, rfl, hM, hnd, hbel⟩ := hrel
    by_cases hlt : k < n
    · have hkx : k < ls.length := by have := Hnx.out; omega
      have hlw := hl'.below hbel (fun b hb => hb)
      obtain ⟨b, o, cs, rfl, hSb, hbl, hsp, hcell⟩ := hlw.elem (List.getElem?_eq_getElem hkx)
      have hsp' := hsp
      obtain ⟨pA, pc, rfl, hpc1, hpc2, _⟩ := hsp
      have c0 := hcell 0 _ rfl
      simp only [rSlice, Nat.add_zero, Nat.mul_one] at c0
      clear hcell hlw
      have Hs : Hid (SlV rDep wr (fun b => b < w.heap.size) ls[k] (.slice pA ls[k].length pc)) := hsp'
      have Hsplit := Lib.hid (fun q hq => allNames_split (q := q) hkx hq)
      have Htk := Lib.hid (allNames_take hkx)
      have hkn : (k : Int) < (n : Int) := by omega
      have hm63 : ls[k].length ≤ 9223372036854775807 := by unfold maxLen at hpc2; omega
      clear hsp' hpc1 hpc2
      generalize hd : allNames (ls.take k) = done at *
      have Hd := Lib.hid hd; clear hd
      generalize hll : ls[k] = l at *
      have Hll := Lib.hid hll; clear hll
      have hm0 : ∃ m, m = l.length := ⟨_, rfl⟩
      obtain ⟨m, hm0⟩ := hm0
      rw [← hm0] at c0 hm63
      have Hm := Lib.hid hm0; clear hm0
      have Hsw : Hid (∀ W, Below w.heap.size w W → SlV rDep W (fun b => b < w.heap.size) l (.slice pA m pc)) := by
        intro W hW
        rw [Hm.out]
        exact Hs.out.keep (fun b hb _ => (hW.block b hb).trans (hbel.block b hb).symm)
      obtain ⟨wo, rfl⟩ : ∃ wo : World, wo = wr := ⟨_, rfl⟩
      go_wp2_with fail
      go_loopw [17] (fun j wq => ∃ q : Nat, q ≤ m ∧ j = .int .i64 q ∧ Hid (MapC wq w.heap.size (done ++ namesOf (l.take q))) ∧ Hid ((done ++ namesOf (l.take q)).Nodup) ∧ Below w.heap.size w wq) (fun j _ => m - (intOf j).toNat)
      case atStart => exact ⟨0, Nat.zero_le _, rfl, by simpa [namesOf] using hM, by simpa [namesOf] using hnd, hbel⟩
      case round =>
        obtain ⟨q, hq, rfl, hMq, hndq, hbelq⟩ := hrel
        have hbwq := hbelq.size
        by_cases hlq : q < m
        · have hqx : q < l.length := by have := Hm.out; omega
          obtain ⟨b', o', cs', hA', hSb', hbl', ⟨s1, rfl, hnm', hrg'⟩, hcell'⟩ := (Hsw.out _ hbelq).elem (List.getElem?_eq_getElem hqx)
          obtain ⟨rA, rc, rfl, _, _⟩ := hrg'.val
          subst hA'
          have e0 := hcell' 0 _ rfl
          have e1 := hcell' 1 _ rfl
          simp only [rDep, Nat.add_zero] at e0 e1
          have Htq := Lib.hid (namesOf_take hqx)
          have Hspq := Lib.hid (Hsplit.out q hqx)
          have hlt9 : (done ++ namesOf (l.take q)).length ≤ 1000000000 := by
            obtain ⟨r0, hr0⟩ := Hspq.out
            have h1 := congrArg List.length hr0
            have h2 := Hmax.out
            rw [Htq.out] at h1
            simp only [List.length_append] at *
            omega
          clear hcell' hrg'
          generalize l[q].name = x at *
          generalize l[q].range.length = rl at *
          have hqm : (q : Int) < (m : Int) := by omega
          have hb9 : b' ≠ wr.heap.size := by omega
          obtain ⟨w2, s1, s2, s3, s4, s5⟩ := seen_step ((hMq.out).keep ((Below.refl _ _).alloc (Nat.le_refl _) (.cells #[.string x, .slice rA rl rc] 68))) hnm' hlt9
          have hM1 := hMq.out.lt
          have f0 : w2.cell? ⟨wr.heap.size, 0, none⟩ = some (.string x) := by
            have h1 := s3.block wr.heap.size (by simp) (by simp; omega)
            exact (cell_same h1 _ _).trans (by simp)
          have HB2 : Hid (Below w.heap.size w w2) := (bal hbelq _).grown s3 (Nat.le_trans hbwq (by simp)) (fun g hg => by injection hg with hg; omega)
          have S5 := Lib.hid s5
          have hcb := cnt_bounds x (done ++ namesOf (l.take q))
          clear s3 s5
          by_cases hin : x ∈ done ++ namesOf (l.take q)
          · have hnn : ¬ (allNames ls).Nodup := by
              obtain ⟨r0, hr0⟩ := Hspq.out
              rw [Htq.out] at hr0
              exact not_nodup_of (d := done ++ namesOf (l.take q)) (r := r0) (by rw [hr0]; simp [List.append_assoc]) hin
            have He := Lib.hid (Hneg.out hnn)
            rw [cnt_in hin] at s1 s2 s4
            rw [show (1 : Int) + 1 = 2 from rfl] at s2 s4
            clear hnn hin hcb Hspq Htq S5 hlt9
            go_wp2_with fail
            go_ret
            exact ⟨ret_bool He.out.symm, HB2.out⟩
          · have Hn2 : Hid (MapC w2 w.heap.size (done ++ namesOf (l.take (q + 1)))) := by
              unfold Hid; rw [Htq.out, ← List.append_assoc]; exact S5.out hin
            have Hn3 : Hid ((done ++ namesOf (l.take (q + 1))).Nodup) := by
              unfold Hid; rw [Htq.out, ← List.append_assoc]
              rw [List.nodup_append]
              exact ⟨hndq.out, by simp, fun a ha b hb => by
                simp at hb; subst hb; intro e; exact hin (e ▸ ha)⟩
            rw [cnt_out hin] at s1 s2 s4
            rw [show (0 : Int) + 1 = 1 from rfl] at s2 s4
            clear hin hcb Hspq Htq S5 hlt9
            go_wp2_with fail
            go_roundw
            case rel => exact ⟨q + 1, by omega, by go_num, Hn2, Hn3, HB2.out⟩
            case measure => simp [intOf]; omega
        · have hqm : q = m := by omega
          have htq : l.take q = l := by have := Hm.out; rw [hqm, this]; exact List.take_length
          have Hn2 : Hid (MapC wr w.heap.size (allNames (ls.take (k + 1)))) := by unfold Hid; rw [Htk.out]; have := hMq.out; rwa [htq] at this
          have Hn3 : Hid ((allNames (ls.take (k + 1))).Nodup) := by unfold Hid; rw [Htk.out]; have := hndq.out; rwa [htq] at this
          clear htq
          go_wp2_with fail
          go_roundw
          case rel => exact ⟨k + 1, by omega, by go_num, Hn2, Hn3, hbelq⟩
          case measure => simp [intOf]; omega
    · have hkl : k = ls.length := by have := Hnx.out; omega
      have hn2 := hnd.out
      rw [hkl, List.take_length] at hn2
      have He := Lib.hid (Hpos.out hn2)
      clear hkl hn2
      go_wp2_with fail
      go_ret
      exact ⟨ret_bool He.out.symm, hbel⟩
end Go.Proofs.YtminjjdnmpaaoaaGreatDoor
