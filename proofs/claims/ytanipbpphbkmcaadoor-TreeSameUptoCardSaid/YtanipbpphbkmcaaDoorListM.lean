/-
  May of a list of dependencies: the program's and the document's, walked.
-/
import Derived.Test.YtanipbpphbkmcaaDoorSpanM
import Derived.Test.YtanipbpphbkmcaaDoorLess
import Derived.Test.YtanipbpphbkmcaaDoorScanName
import Derived.Test.YtanipbpphbkmcaaDoorSame
set_option autoImplicit false
set_option relaxedAutoImplicit false
set_option linter.unusedVariables false
set_option linter.unusedSimpArgs false
namespace Go.Proofs.YtanipbpphbkmcaaDoor
open Go.Rows Go.RowKit Go.Shelf Go.Sort

def behind : Option ByteArray → ByteArray → Bool
  | none, _ => true
  | some a, b => lessB a b
def listGo : Option ByteArray → List Dep → Bool
  | _, [] => true
  | p, d :: l => (nameB d.name && (spansB d.range && (decide (d.range.length ≠ 0) && behind p d.name))) && listGo (some d.name) l
def listB (l : List Dep) : Bool := listGo none l && decide (l.length ≤ 16)
def prevName (l : List Dep) : Nat → Option ByteArray
  | 0 => none
  | q + 1 => (l[q]?).map (·.name)
theorem prevName_succ {l : List Dep} {q : Nat} (h : q < l.length) : prevName l (q + 1) = some l[q].name := by simp [prevName, List.getElem?_eq_getElem h]
theorem listGo_at {l : List Dep} {k : Nat} (h : k < l.length) : listGo (prevName l k) (l.drop k) =
    ((nameB l[k].name && (spansB l[k].range && (decide (l[k].range.length ≠ 0) && behind (prevName l k) l[k].name))) && listGo (prevName l (k + 1)) (l.drop (k + 1))) := by
  rw [List.drop_eq_getElem_cons h, prevName_succ h]; rfl

set_option maxHeartbeats 2000000 in
set_option maxRecDepth 100000 in
theorem list_any (A : Option Addr) (n c : Nat) (l : List Dep) (w : World) (S : Nat → Prop) (hl : SlV rDep w S l (.slice A n c)) :
    Calls Tryd.prog 66 #[.slice A n c] w fun e w' => e = .returned (.bool (listB l)) ∧ Below w.heap.size w w' := by
  have hnx := hl.n_eq
  have hcc := hl.cap_le
  unfold maxLen at hcc
  have hn63 : n ≤ 9223372036854775807 := by omega
  have hl' := hl.more (S' := fun b => b < w.heap.size) fun b _ hlt => hlt
  have Hs : Hid (listB l = (listGo none l && decide (n ≤ 16))) := by unfold Hid listB; rw [hnx]
  have Hnx := Lib.hid hnx; clear hnx
  clear hl hcc
  generalize listB l = r at *
  go_enter Tryd.func66, Tryd.ntmps66
  go_wp2_with fail
  go_loopw [7] (fun i wr => ∃ (k : Nat), k ≤ n ∧ i = .int .i64 k ∧ Hid (listGo none l = listGo (prevName l k) (l.drop k)) ∧ Below w.heap.size w wr) (fun i _ => n - (intOf i).toNat)
  case atStart => exact ⟨0, Nat.zero_le _, rfl, by simp [Hid, prevName], Below.refl _ _⟩
  case round =>
    obtain ⟨k, hk, rfl, hgo, hbel⟩ := hrel
    have hbw := hbel.size
    by_cases hlt : k < n
    · have hkx : k < l.length := by have := Hnx.out; omega
      have hlw := hl'.below hbel (fun b hb => hb)
      have hlw2 := Lib.hid hlw
      obtain ⟨b, o, cs, rfl, hSb, hbl, ⟨s0, rfl, hnm, hrg⟩, hcell⟩ := hlw.elem (List.getElem?_eq_getElem hkx)
      obtain ⟨pA, pc, rfl, hpc1, hpc2⟩ := hrg.val
      have c0 := hcell 0 _ rfl
      have c1 := hcell 1 _ rfl
      simp only [rDep, Nat.add_zero] at c0 c1
      clear hcell hlw
      have Hgo := Lib.hid (listGo_at hkx)
      have hk0 : (0 : Int) ≤ (k : Int) := by omega
      have hkn : (k : Int) < (n : Int) := by omega
      have Hc1 : Hid (∀ o : Obj, ∀ d os, Calls Tryd.prog 24 #[.string l[k].name] (grow (redrawn (wr.alloc o) d) os) fun e w'' => e = .returned (.bool (nameB l[k].name)) ∧ ∃ p : Regrown, w'' = grow (redrawn (wr.alloc o) p.d) p.os) := fun o => qcall (w := wr.alloc o) (fun W hW => scanName_any l[k].name hnm W)
      have Hc2 : Hid (∀ o : Obj, ∀ d os, Calls Tryd.prog 76 #[.slice pA l[k].range.length pc] (grow (redrawn (wr.alloc o) d) os) fun e w'' => e = .returned (.bool (spansB l[k].range)) ∧ ∃ p : Regrown, w'' = grow (redrawn (wr.alloc o) p.d) p.os) := fun o => qcall (w := wr.alloc o) (fun W hW => spanMay_any _ _ _ l[k].range W _ ((hrg.alloc o).belowSize hW))
      generalize hnam : l[k].name = nm at *
      generalize hrl : l[k].range.length = rl at *
      generalize hsp : spansB l[k].range = v2 at *
      generalize hv1 : nameB nm = v1 at *
      have Hgo' : Hid (listGo (prevName l k) (l.drop k) = ((v1 && (v2 && (decide (rl ≠ 0) && behind (prevName l k) nm))) && listGo (prevName l (k + 1)) (l.drop (k + 1)))) := by
        have := Hgo.out; try simp only [hnam, hrl, hsp, hv1] at this
        exact this
      clear Hgo hrl hsp hv1 hrg
      have Hnam := Lib.hid hnam; clear hnam
      have Hend : Hid ((v1 && (v2 && (decide (rl ≠ 0) && behind (prevName l k) nm))) = false → r = false) := fun h => by rw [Hs.out, hgo.out, Hgo'.out, h]; rfl
      have Hon : Hid ((v1 && (v2 && (decide (rl ≠ 0) && behind (prevName l k) nm))) = true → listGo none l = listGo (prevName l (k + 1)) (l.drop (k + 1))) := fun h => by rw [hgo.out, Hgo'.out, h, Bool.true_and]
      clear hgo Hgo'
      cases v1
      · have He := Lib.hid (Hend.out (rfl))
        clear Hend Hon
        go_wp2_with fail
        have a0 : (wr.alloc (.cells #[.string nm, .slice pA rl pc] 97)).cell? ⟨wr.heap.size, 0, none⟩ = some (.string nm) := by simp [go_sem]
        have a1 : (wr.alloc (.cells #[.string nm, .slice pA rl pc] 97)).cell? ⟨wr.heap.size, 1, none⟩ = some (.slice pA rl pc) := by simp [go_sem]
        have r_a0 := cell_regrown a0
        have r_a1 := cell_regrown a1
        refine wp_region_qb (by kernel_rfl) (by kernel_rfl) ?_
        repeat (go_big_quiet_step (first | (with_reducible exact Hc1.out _ _ _) | (with_reducible exact Hc2.out _ _ _)))
        refine wpQuiet_nil ?_
        intro w1 B1
        go_wp2_with fail
        go_ret
        exact ⟨ret_bool He.out.symm, bot (bal hbel _) B1⟩
      · cases v2
        · have He := Lib.hid (Hend.out (rfl))
          clear Hend Hon
          go_wp2_with fail
          have a0 : (wr.alloc (.cells #[.string nm, .slice pA rl pc] 97)).cell? ⟨wr.heap.size, 0, none⟩ = some (.string nm) := by simp [go_sem]
          have a1 : (wr.alloc (.cells #[.string nm, .slice pA rl pc] 97)).cell? ⟨wr.heap.size, 1, none⟩ = some (.slice pA rl pc) := by simp [go_sem]
          have r_a0 := cell_regrown a0
          have r_a1 := cell_regrown a1
          refine wp_region_qb (by kernel_rfl) (by kernel_rfl) ?_
          repeat (go_big_quiet_step (first | (with_reducible exact Hc1.out _ _ _) | (with_reducible exact Hc2.out _ _ _)))
          refine wpQuiet_nil ?_
          intro w1 B1
          go_wp2_with fail
          go_ret
          exact ⟨ret_bool He.out.symm, bot (bal hbel _) B1⟩
        · by_cases hz : rl = 0
          · have hzb : ((rl : Int) == 0) = true := by simp [hz]
            have Hz0 := Lib.hid hz; clear hz
            have He := Lib.hid (Hend.out (by simp [Hz0.out]))
            clear Hend Hon
            go_wp2_with fail
            have a0 : (wr.alloc (.cells #[.string nm, .slice pA rl pc] 97)).cell? ⟨wr.heap.size, 0, none⟩ = some (.string nm) := by simp [go_sem]
            have a1 : (wr.alloc (.cells #[.string nm, .slice pA rl pc] 97)).cell? ⟨wr.heap.size, 1, none⟩ = some (.slice pA rl pc) := by simp [go_sem]
            have r_a0 := cell_regrown a0
            have r_a1 := cell_regrown a1
            refine wp_region_qb (by kernel_rfl) (by kernel_rfl) ?_
            repeat (go_big_quiet_step (first | (with_reducible exact Hc1.out _ _ _) | (with_reducible exact Hc2.out _ _ _)))
            refine wpQuiet_nil ?_
            intro w1 B1
            go_wp2_with fail
            go_ret
            exact ⟨ret_bool He.out.symm, bot (bal hbel _) B1⟩
          · have hzb : ((rl : Int) == 0) = false := by simp [hz]
            have hzd : decide (rl ≠ 0) = true := by simp [hz]
            have Hz := Lib.hid hzd; clear hz hzd
            by_cases hk00 : k = 0
            · have hkz : decide (0 < k) = false := by simp [hk00]
              have He := Lib.hid (Hon.out (by rw [Hz.out, hk00]; rfl))
              clear hk00
              clear Hend Hon
              go_wp2_with fail
              have a0 : (wr.alloc (.cells #[.string nm, .slice pA rl pc] 97)).cell? ⟨wr.heap.size, 0, none⟩ = some (.string nm) := by simp [go_sem]
              have a1 : (wr.alloc (.cells #[.string nm, .slice pA rl pc] 97)).cell? ⟨wr.heap.size, 1, none⟩ = some (.slice pA rl pc) := by simp [go_sem]
              have r_a0 := cell_regrown a0
              have r_a1 := cell_regrown a1
              refine wp_region_qb (by kernel_rfl) (by kernel_rfl) ?_
              repeat (go_big_quiet_step (first | (with_reducible exact Hc1.out _ _ _) | (with_reducible exact Hc2.out _ _ _)))
              refine wpQuiet_nil ?_
              intro w1 B1
              go_wp2_with fail
              go_roundw
              case rel => exact ⟨k + 1, by omega, by go_num, He, bot (bal hbel _) B1⟩
              case measure => simp [intOf]; omega
            · obtain ⟨q, rfl⟩ : ∃ q, k = q + 1 := ⟨k - 1, by omega⟩
              clear hk00
              have hqx : q < l.length := by omega
              obtain ⟨b', o', cs', hA', _, hbl', ⟨s1, rfl, hnm', hrg'⟩, hcell'⟩ := hlw2.out.elem (List.getElem?_eq_getElem hqx)
              injection hA' with hA'
              injection hA' with hb' ho' _
              subst hb' ho'
              have e0 := hcell' 0 _ rfl
              simp only [rDep, Nat.add_zero] at e0
              have Hpq := Lib.hid (prevName_succ hqx)
              clear hcell' hlw2 hrg'
              generalize l[q].name = pn at *
              have hw1 : IntKind.i64.wrap ((q : Int) + 1 - 1) = (q : Int) := (IntWalk.i64_in _ ⟨by omega, by omega⟩).trans (by omega)
              have hw2 : IntKind.i64.wrap (q : Int) = (q : Int) := IntWalk.i64_in _ ⟨by omega, by omega⟩
              have hq0 : (0 : Int) ≤ (q : Int) := by omega
              have hqn : (q : Int) < (n : Int) := by omega
              have hq1 : (0 : Int) < (q : Int) + 1 := by omega
              have hq2 : (q : Int) + 1 < (n : Int) := by omega
              have hq3 : (0 : Int) ≤ (q : Int) + 1 := by omega
              have a2 : (wr.alloc (.cells #[.string nm, .slice pA rl pc] 97)).cell? ⟨b, o + q * 2, none⟩ = some (.string pn) := (cell_same (Below.heap_alloc wr _ b hbl) _ _).trans e0
              have r_a2 := cell_regrown a2
              clear e0
              cases hls : Op.bytesLess pn.toList nm.toList
              · have He := Lib.hid (Hend.out (by rw [Hz.out, Hpq.out]; simp only [behind, lessB]; rw [hls]; rfl))
                clear Hend Hon
                go_wp2_with fail
                have a0 : (wr.alloc (.cells #[.string nm, .slice pA rl pc] 97)).cell? ⟨wr.heap.size, 0, none⟩ = some (.string nm) := by simp [go_sem]
                have a1 : (wr.alloc (.cells #[.string nm, .slice pA rl pc] 97)).cell? ⟨wr.heap.size, 1, none⟩ = some (.slice pA rl pc) := by simp [go_sem]
                have r_a0 := cell_regrown a0
                have r_a1 := cell_regrown a1
                refine wp_region_qb (by kernel_rfl) (by kernel_rfl) ?_
                repeat (go_big_quiet_step (first | (with_reducible exact Hc1.out _ _ _) | (with_reducible exact Hc2.out _ _ _)))
                refine wpQuiet_nil ?_
                intro w1 B1
                go_wp2_with fail
                go_ret
                exact ⟨ret_bool He.out.symm, bot (bal hbel _) B1⟩
              · have He := Lib.hid (Hon.out (by rw [Hz.out, Hpq.out]; simp only [behind, lessB]; rw [hls]; rfl))
                clear Hend Hon
                go_wp2_with fail
                have a0 : (wr.alloc (.cells #[.string nm, .slice pA rl pc] 97)).cell? ⟨wr.heap.size, 0, none⟩ = some (.string nm) := by simp [go_sem]
                have a1 : (wr.alloc (.cells #[.string nm, .slice pA rl pc] 97)).cell? ⟨wr.heap.size, 1, none⟩ = some (.slice pA rl pc) := by simp [go_sem]
                have r_a0 := cell_regrown a0
                have r_a1 := cell_regrown a1
                refine wp_region_qb (by kernel_rfl) (by kernel_rfl) ?_
                repeat (go_big_quiet_step (first | (with_reducible exact Hc1.out _ _ _) | (with_reducible exact Hc2.out _ _ _)))
                refine wpQuiet_nil ?_
                intro w1 B1
                go_wp2_with fail
                go_roundw
                case rel => exact ⟨q + 1 + 1, by omega, by go_num, He, bot (bal hbel _) B1⟩
                case measure => simp [intOf]; omega
    · have He : Hid (r = decide ((n : Int) ≤ 16)) := by
        unfold Hid
        rw [Hs.out, hgo.out, List.drop_eq_nil_of_le (by have := Hnx.out; omega)]
        rw [show listGo (prevName l k) [] = true from rfl, Bool.true_and]
        rw [Bool.eq_iff_iff]; simp; omega
      clear hgo
      have hkn : ¬ (k : Int) < (n : Int) := by omega
      go_wp2_with fail
      go_ret
      exact ⟨ret_bool He.out.symm, hbel⟩

end Go.Proofs.YtanipbpphbkmcaaDoor
