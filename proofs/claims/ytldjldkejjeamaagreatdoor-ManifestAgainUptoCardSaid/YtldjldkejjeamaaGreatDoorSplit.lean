/-
  strings.SplitSeq: an iterator over a text's parts, walked.
-/
import Derived.Test.YtldjldkejjeamaaGreatDoorRange
import Derived.Test.YtldjldkejjeamaaGreatDoorShelf
import Derived.Lib.Split
import Derived.Lib.SplitLaws
import Derived.Shelf.Abstract
import Derived.Shelf.RegionOpen
import Derived.OwnWalkIn
import Derived.TacticsInMore
import Derived.LoopNIn
import Derived.LoopIn
set_option autoImplicit false
set_option relaxedAutoImplicit false
set_option linter.unusedVariables false
set_option linter.unusedSimpArgs false
namespace Go.Proofs.YtldjldkejjeamaaGreatDoor
open Go.Rows Go.RowKit Go.Shelf Go.Sort

attribute [local go_sem] Oper.semAt_some

/-- a text's parts between the places of another one -/
def spl (s sep : ByteArray) : List ByteArray := Lib.splitB sep 0 s.size s
def encS (x : ByteArray) : Value := .string x

theorem splitSeq_any (s sep : ByteArray) (w : World) : Calls Tryz.prog 103 #[.string s, .string sep] w fun e w' =>
    e = .returned (.func (.func 160) #[] #[.pointer (some ⟨w.heap.size + 1, 0, none⟩), .pointer (some ⟨w.heap.size, 0, none⟩), .pointer (some ⟨w.heap.size + 2, 0, none⟩)]) ∧
      w' = ((w.alloc (.cells #[.string s] 9)).alloc (.cells #[.string sep] 9)).alloc (.cells #[.int .i64 0] 3) := by
  have H1 : Hid (Calls Tryz.prog 129 #[.string s, .string sep, .int .i64 0] w fun e w' => e = .returned (.func (.func 160) #[] #[.pointer (some ⟨w.heap.size + 1, 0, none⟩), .pointer (some ⟨w.heap.size, 0, none⟩), .pointer (some ⟨w.heap.size + 2, 0, none⟩)]) ∧
      w' = ((w.alloc (.cells #[.string s] 9)).alloc (.cells #[.string sep] 9)).alloc (.cells #[.int .i64 0] 3)) := by
    unfold Hid
    go_enter Tryz.func129, Tryz.ntmps129
    go_wp2_with fail
    go_ret
    exact ⟨rfl, rfl⟩
  go_enter Tryz.func103, Tryz.ntmps103
  go_wp2_with fail
  refine H1.out.mono ?_
  rintro e w1 ⟨rfl, rfl⟩
  go_wp2_with fail
  go_ret
  exact ⟨rfl, rfl⟩

/-- how much of the text is left, read off the world -/
def leftS (sB : Nat) (W : World) : Nat := match W.cell? ⟨sB, 0, none⟩ with | some (.string r) => r.size | _ => 0
theorem leftS_of {sB : Nat} {W : World} {t : TypeId} {r : ByteArray} (h : Boxed W sB t (.string r)) : leftS sB W = r.size := by unfold leftS; rw [h.cell]
set_option maxHeartbeats 4000000 in
set_option maxRecDepth 100000 in
theorem splitSeq1_parts (n : Nat) (hn : 1 ≤ n) (sB pB vB : Nat) (s sep : ByteArray) (m : Int) (w : World) (h1 : 1 ≤ sep.size) (hsp : sep.size ≤ 100) (hs : s.size < 4294967281) (hm : w.cell? ⟨0, 0, none⟩ = some (.int .i64 m))
    (bs : Boxed w sB 9 (.string s)) (bp : Boxed w pB 9 (.string sep)) (bv : Boxed w vB 3 (.int .i64 0)) (hd : sB ≠ pB ∧ sB ≠ vB ∧ sB ≠ 0) :
    Parts encS Fence.wide n Tryz.prog 160 #[.pointer (some ⟨pB, 0, none⟩), .pointer (some ⟨sB, 0, none⟩), .pointer (some ⟨vB, 0, none⟩)] (fun j => j = sB) (fun j => j = sB ∨ j = pB ∨ j = vB ∨ j = 0) (spl s sep) w := by
  intro lp J Jx W hK hJ hJx hY h0
  have bsW : Boxed W sB 9 (.string s) := (hK sB (.inl rfl)).2.1.trans bs
  have bpW : Boxed W pB 9 (.string sep) := (hK pB (.inr (.inl rfl))).2.1.trans bp
  have bvW : Boxed W vB 3 (.int .i64 0) := (hK vB (.inr (.inr (.inl rfl)))).2.1.trans bv
  have hmW : W.cell? ⟨0, 0, none⟩ = some (.int .i64 m) := (World.cell?_of_block (a := ⟨0, 0, none⟩) (hK _ (.inr (.inr (.inr rfl)))).2.1).trans hm
  have HY := Lib.hid hY
  have HJ := Lib.hid hJ
  clear hK hY hJ bs bp bv hm
  refine callsIn_of_wp Tryz.func160 rfl trivial ?_ rfl
  simp only [Tryz.ntmps160, List.size_toArray, List.length_cons, List.length_nil, Nat.reduceAdd, Nat.reduceSub, Array.replicate_succ, Array.replicate_zero, List.push_toArray, List.append_toArray, List.nil_append, List.cons_append]
  have cp := bpW.cell
  have hne : ((sep.size : Int) == 0) = false := by rw [beq_eq_false_iff_ne]; omega
  gi_wp2
  gi_loopw [] (fun wr => ∃ (k f : Nat) (done : List ByteArray) (r : ByteArray), Hid (J k wr) ∧ done.length = k ∧ Hid (spl s sep = done ++ Lib.splitB sep 0 f r) ∧ r.size ≤ f ∧ r.size ≤ s.size ∧ Boxed wr sB 9 (.string r) ∧ Boxed wr pB 9 (.string sep) ∧ Boxed wr vB 3 (.int .i64 0) ∧ wr.cell? ⟨0, 0, none⟩ = some (.int .i64 m)) (fun wr => leftS sB wr)
  case atStart => exact ⟨0, s.size, [], s, h0, rfl, rfl, Nat.le_refl _, Nat.le_refl _, bsW, bpW, bvW, hmW⟩
  case round =>
    clear h0 bsW bpW bvW hmW cp
    obtain ⟨k, f, done, r, Hj, hdk, Hsp, hrf, hrs, bs, bp, bv, hm⟩ := hrel
    have cs := bs.cell
    have cp := bp.cell
    have cv := bv.cell
    have Hix := Lib.hid (Tryz.strings_Index r sep m wr (by omega) hm)
    rcases Lib.indexB_cases r sep with hi | ⟨i, hi, hir⟩
    · have hpl : (spl s sep).length = k + 1 := by rw [Hsp.out, Lib.splitB_miss _ _ _ _ hi, List.length_append, hdk]; rfl
      have hpk : (spl s sep)[k]'(by omega) = r := by
        have : (spl s sep)[k]? = some r := by rw [Hsp.out, Lib.splitB_miss _ _ _ _ hi, ← hdk]; simp
        exact (List.getElem?_eq_some_iff.1 this).2
      obtain ⟨fn, tmps, assign, body, hy, hR⟩ := HY.out k (by omega) wr Hj.out
      rw [hpk] at hy
      unfold encS at hy
      have Hpl := Lib.hid hpl
      have hI : Lib.index r.data.toList sep.data.toList = -1 := hi
      rw [hI] at Hix
      clear hpk hpl hi hI Hsp
      gi_wp2
      refine ⟨trivial, (callsIn_wide.2 Hix.out).mono ?_⟩
      rintro e w' ⟨rfl, rfl⟩
      gi_wp2
      refine hR.mono ?_
      rintro e W3 (⟨rfl, hJ3, hk3⟩ | ⟨rfl, hJx3⟩)
      · gi_wp2
        go_end0
        refine ⟨⟨_, rfl⟩, .inl ?_⟩
        rw [Hpl.out]
        exact hJ3
      · gi_wp2
        go_end0
        exact ⟨⟨_, rfl⟩, .inr hJx3⟩
    · obtain ⟨f, rfl⟩ : ∃ f', f = f' + 1 := ⟨f - 1, by omega⟩
      have hsp2 : spl s sep = (done ++ [r.extract 0 i]) ++ Lib.splitB sep 0 f (r.extract (i + sep.size) r.size) := by rw [Hsp.out, Lib.splitB_hit _ _ _ _ _ hi, List.append_assoc]; rfl
      have hpl : k < (spl s sep).length := by rw [hsp2, List.length_append, List.length_append, hdk]; simp; omega
      have hpk : (spl s sep)[k]'hpl = r.extract 0 i := by
        have : (spl s sep)[k]? = some (r.extract 0 i) := by rw [hsp2, ← hdk, List.append_assoc]; simp
        exact (List.getElem?_eq_some_iff.1 this).2
      obtain ⟨fn, tmps, assign, body, hy, hR⟩ := HY.out k hpl wr Hj.out
      rw [hpk] at hy
      unfold encS at hy
      have Hsp2 := Lib.hid hsp2
      have hI : Lib.index r.data.toList sep.data.toList = (i : Int) := hi
      rw [hI] at Hix
      have hi0 : ¬ (i : Int) < 0 := by omega
      have hwi : IntKind.i64.wrap ((i : Int) + 0) = (i : Int) := by rw [Int.add_zero]; exact IntWalk.i64_in _ ⟨by omega, by omega⟩
      have hwj : IntKind.i64.wrap ((i : Int) + (sep.size : Int)) = ((i + sep.size : Nat) : Int) := by rw [IntWalk.i64_in _ ⟨by omega, by omega⟩]; omega
      have hil : i ≤ r.size := by omega
      clear hpk hpl hi hI Hsp hsp2
      gi_wp2
      refine ⟨trivial, (callsIn_wide.2 Hix.out).mono ?_⟩
      rintro e w' ⟨rfl, rfl⟩
      gi_wp2
      refine hR.mono ?_
      rintro e W3 (⟨rfl, hJ3, hk3⟩ | ⟨rfl, hJx3⟩)
      · have bs3 : Boxed W3 sB 9 (.string r) := (hk3 sB (.inl rfl)).trans bs
        have bp3 : Boxed W3 pB 9 (.string sep) := (hk3 pB (.inr (.inl rfl))).trans bp
        have bv3 : Boxed W3 vB 3 (.int .i64 0) := (hk3 vB (.inr (.inr (.inl rfl)))).trans bv
        have hm3 : W3.cell? ⟨0, 0, none⟩ = some (.int .i64 m) := (World.cell?_of_block (a := ⟨0, 0, none⟩) (hk3 _ (.inr (.inr (.inr rfl))))).trans hm
        have cs3 := bs3.cell
        have cp3 := bp3.cell
        have fs3 := bs3.frozen
        have hzr : (r.extract (i + sep.size) r.size).size = r.size - (i + sep.size) := by rw [ByteArray.size_extract]; omega
        have T : Turn (fun j => j = sB) W3 (W3.setCell ⟨sB, 0, none⟩ (.string (r.extract (i + sep.size) r.size))) := Turn.set (X := fun j => j = sB) W3 (show sB = sB from rfl) _
        have hm4 : (W3.setCell ⟨sB, 0, none⟩ (.string (r.extract (i + sep.size) r.size))).cell? ⟨0, 0, none⟩ = some (.int .i64 m) := (World.cell?_of_block (a := ⟨0, 0, none⟩) (T.block _ (cell_lt hm3) (fun e => hd.2.2 e.symm))).trans hm3
        have hle2 : i + sep.size ≤ r.size := hir
        have HT := Lib.hid T
        clear T
        gi_wp2
        go_roundw
        case rel => exact ⟨k + 1, f, done ++ [r.extract 0 i], r.extract (i + sep.size) r.size, HJ.out _ _ _ hJ3 HT.out, by rw [List.length_append, hdk]; rfl, Hsp2, by rw [hzr]; omega, by rw [hzr]; omega, bs3.set _, HT.out.box bp3 (fun e => hd.1 e.symm), HT.out.box bv3 (fun e => hd.2.1 e.symm), hm4⟩
        case measure => rw [leftS_of (bs3.set _), leftS_of bs, hzr]; omega
      · gi_wp2
        refine bodyPost_ret (results_none rfl _ _ _) rfl ?_
        exact ⟨⟨_, rfl⟩, .inr hJx3⟩
end Go.Proofs.YtldjldkejjeamaaGreatDoor
