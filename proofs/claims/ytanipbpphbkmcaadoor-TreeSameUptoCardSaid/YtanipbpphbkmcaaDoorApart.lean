/-
  No name stands twice: the program's apart (a map that counts) and the document's Apart, walked.
-/
import Derived.Test.YtanipbpphbkmcaaDoorSame
import Derived.Maps.Own
import Derived.Maps.OwnOps
import Derived.Maps.Views
import Derived.StringKeys
set_option autoImplicit false
set_option relaxedAutoImplicit false
set_option linter.unusedVariables false
set_option linter.unusedSimpArgs false
namespace Go.Proofs.YtanipbpphbkmcaaDoor
open Go.RowKit Go.Sort Go.Maps

noncomputable def nodupB (l : List ByteArray) : Bool := @decide l.Nodup (Classical.propDecidable _)
theorem nodupB_true {l : List ByteArray} (h : l.Nodup) : nodupB l = true := by unfold nodupB; exact @decide_eq_true _ (Classical.propDecidable _) h
theorem nodupB_false {l : List ByteArray} (h : ¬ l.Nodup) : nodupB l = false := by unfold nodupB; exact @decide_eq_false _ (Classical.propDecidable _) h
theorem nodupB_of {l : List ByteArray} (h : nodupB l = true) : l.Nodup := by
  by_cases e : l.Nodup
  · exact e
  · rw [nodupB_false e] at h; cases h
noncomputable def cnt (x : ByteArray) (l : List ByteArray) : Int := @ite Int (x ∈ l) (Classical.propDecidable _) 1 0
theorem cnt_in {x : ByteArray} {l : List ByteArray} (h : x ∈ l) : cnt x l = 1 := by unfold cnt; exact @if_pos _ (Classical.propDecidable _) h _ _ _
theorem cnt_out {x : ByteArray} {l : List ByteArray} (h : x ∉ l) : cnt x l = 0 := by unfold cnt; exact @if_neg _ (Classical.propDecidable _) h _ _ _
theorem cnt_bounds (x : ByteArray) (l : List ByteArray) : 0 ≤ cnt x l ∧ cnt x l ≤ 1 := by
  by_cases h : x ∈ l
  · rw [cnt_in h]; omega
  · rw [cnt_out h]; omega

theorem key_law : Keyed Tryd.prog 9 := string_keyed Tryd.underlying9
theorem int_zero (w : World) : (zeroValue 3).run Tryd.prog w = .ok (.int .i64 0) w := by kernel_rfl

/-- a map that counts the names of a list, each once -/
def MapC (w : World) (B : Nat) (l : List ByteArray) : Prop :=
  ∃ (n : Nat) (D : DataW Unit), w.ownsMap Tryd.prog 9 (plainElem Tryd.prog 3) B n D ∧ n ≤ l.length ∧ IsMap D ∧ ∀ s : ByteArray, D.atKey (.string s.data.toList) (.lit (.int .i64 0)) = .lit (.int .i64 (cnt s l))
theorem MapC.made (w : World) : MapC (w.alloc (.map #[] 0)) w.heap.size [] :=
  ⟨0, .map [], World.ownsMap_made _ _ _ _, Nat.le_refl _, isMap_empty, fun s => by rw [cnt_out (by simp)]; rfl⟩
theorem MapC.kept {w w' : World} {B : Nat} {l : List ByteArray} {row : Option Nat} (h : MapC w B l) (hg : w.grownBy w' row) (hne : some B ≠ row) : MapC w' B l := by
  obtain ⟨n, D, h1, h2⟩ := h
  exact ⟨n, D, h1.kept hg hne, h2⟩
theorem MapC.keep {w w' : World} {B : Nat} {l : List ByteArray} (h : MapC w B l) (hb : Below w.heap.size w w') : MapC w' B l :=
  h.kept (row := none) ⟨hb.os, hb.tape, hb.output, hb.size, fun k hk _ => hb.block k hk⟩ (by simp)
theorem MapC.lt {w : World} {B : Nat} {l : List ByteArray} (h : MapC w B l) : B < w.heap.size := by
  obtain ⟨n, D, h1, _⟩ := h
  exact h1.lt

theorem data_inj {a b : ByteArray} (h : a.data.toList = b.data.toList) : a = b := by
  apply ByteArray.ext
  exact Array.toList_inj.1 h

theorem seen_step {W : World} {B : Nat} {l : List ByteArray} {x : ByteArray} (h : MapC W B l) (hx : x.size ≤ maxLen) (hl : l.length ≤ 1000000000) :
    ∃ w', (Instr.lookup 116 (.map (some B)) (.string x) false).run Tryd.prog W = .ok (.int .i64 (cnt x l)) W ∧
      (Instr.mapUpdate 116 (.map (some B)) (.string x) (.int .i64 (cnt x l + 1))).run Tryd.prog W = .ok () w' ∧ W.grownBy w' (some B) ∧
      (Instr.lookup 116 (.map (some B)) (.string x) false).run Tryd.prog w' = .ok (.int .i64 (cnt x l + 1)) w' ∧ (x ∉ l → MapC w' B (l ++ [x])) := by
  obtain ⟨n, D, h1, h2, h3, h4⟩ := h
  have hkey := Go.WideMaps.keyOf_string_mk (P := Tryd.prog) Tryd.underlying9 hx
  obtain ⟨c, r1, r2, r3⟩ := h1.lookup_int key_law Tryd.underlying116 Tryd.underlying3 (int_zero W) hkey
  have hc : c = cnt x l := by rw [h4 x] at r2; simpa using r2.symm
  subst hc
  have hb := cnt_bounds x l
  have hwf : (Lit.int .i64 (cnt x l + 1)).wf = true := WalkArith.wf_i64 (by omega)
  obtain ⟨w', r4, r5, r6⟩ := h1.update key_law Tryd.underlying116 (by unfold maxLen; omega) hkey (plainElem_int (H := Unit) Tryd.underlying3 hwf)
  obtain ⟨c', r7, r8, r9⟩ := r5.lookup_int key_law Tryd.underlying116 Tryd.underlying3 (int_zero w') hkey
  rw [atKey_put_same h3 (by trivial)] at r8
  have hc' : c' = cnt x l + 1 := by simpa using r8.symm
  subst hc'
  refine ⟨w', r1, r4, r6, r7, fun hnot => ⟨n + 1, _, r5, by simp; omega, h3.put _ _, fun s => ?_⟩⟩
  by_cases e : s = x
  · subst e
    rw [atKey_put_same h3 (by trivial), cnt_out hnot, cnt_in (by simp)]
    rfl
  · rw [atKey_put_other (fun he => e (data_inj (by simpa using he))), h4 s]
    by_cases hs : s ∈ l
    · rw [cnt_in hs, cnt_in (by simp [hs])]
    · rw [cnt_out hs, cnt_out (by simp [hs, e])]

def namesOf (l : List Dep) : List ByteArray := l.map (·.name)
def allNames (ls : List (List Dep)) : List ByteArray := (ls.map namesOf).flatten
theorem allNames_take {ls : List (List Dep)} {k : Nat} (h : k < ls.length) : allNames (ls.take (k + 1)) = allNames (ls.take k) ++ namesOf ls[k] := by
  unfold allNames
  rw [List.take_succ_eq_append_getElem h, List.map_append, List.flatten_append]
  simp only [List.map_cons, List.map_nil, List.flatten_cons, List.flatten_nil, List.append_nil]
theorem namesOf_take {l : List Dep} {k : Nat} (h : k < l.length) : namesOf (l.take (k + 1)) = namesOf (l.take k) ++ [l[k].name] := by
  unfold namesOf
  rw [List.take_succ_eq_append_getElem h, List.map_append]
  rfl
theorem allNames_split {ls : List (List Dep)} {k q : Nat} (h : k < ls.length) (hq : q < ls[k].length) : ∃ r, allNames ls = allNames (ls.take k) ++ (namesOf (ls[k].take (q + 1)) ++ r) := by
  refine ⟨namesOf (ls[k].drop (q + 1)) ++ allNames (ls.drop (k + 1)), ?_⟩
  have e1 : ls = ls.take k ++ (ls[k] :: ls.drop (k + 1)) := by rw [← List.drop_eq_getElem_cons h, List.take_append_drop]
  have e2 : namesOf ls[k] = namesOf (ls[k].take (q + 1)) ++ namesOf (ls[k].drop (q + 1)) := by
    unfold namesOf; rw [← List.map_append, List.take_append_drop]
  conv => lhs; rw [e1]
  simp only [allNames, List.map_append, List.map_cons, List.flatten_append, List.flatten_cons]
  rw [e2]; simp [List.append_assoc]
theorem not_nodup_of {l d : List ByteArray} {x : ByteArray} {r : List ByteArray} (h : l = d ++ ([x] ++ r)) (hx : x ∈ d) : ¬ l.Nodup := by
  intro hn
  rw [h] at hn
  have := (List.nodup_append.1 hn).2.2 x hx x (by simp)
  exact this rfl

set_option maxHeartbeats 1600000 in
set_option maxRecDepth 100000 in
theorem apart_any (A : Option Addr) (n c : Nat) (ls : List (List Dep)) (w : World) (S : Nat → Prop) (hmax : (allNames ls).length ≤ 1000000000) (hl : SlV (rSlice rDep) w S ls (.slice A n c)) :
    Calls Tryd.prog 67 #[.slice A n c] w fun e w' => e = .returned (.bool (nodupB (allNames ls))) ∧ Below w.heap.size w w' := by
  have hnx := hl.n_eq
  have hcc := hl.cap_le
  unfold maxLen at hcc
  have hn63 : n ≤ 9223372036854775807 := by omega
  have hl' := hl.more (S' := fun b => b < w.heap.size) fun b _ hlt => hlt
  have Hpos : Hid ((allNames ls).Nodup → nodupB (allNames ls) = true) := nodupB_true
  have Hneg : Hid (¬ (allNames ls).Nodup → nodupB (allNames ls) = false) := nodupB_false
  have Hnx := Lib.hid hnx; clear hnx
  have Hmax := Lib.hid hmax; clear hmax
  clear hl hcc
  generalize nodupB (allNames ls) = r at *
  have hmm := @run_makeMap Tryd.prog
  go_enter Tryd.func67, Tryd.ntmps67
  go_wp2_with fail
  clear hmm
  go_loopw [11] (fun i wr => ∃ (k : Nat), k ≤ n ∧ i = .int .i64 k ∧ Hid (MapC wr w.heap.size (allNames (ls.take k))) ∧ Hid ((allNames (ls.take k)).Nodup) ∧ Below w.heap.size w wr) (fun i _ => n - (intOf i).toNat)
  case atStart => exact ⟨0, Nat.zero_le _, rfl, MapC.made _, by simp [Hid, allNames], bal (Below.refl _ _) _⟩
  case round =>
    obtain ⟨k, hk, rfl, hM, hnd, hbel⟩ := hrel
    by_cases hlt : k < n
    · have hkx : k < ls.length := by have := Hnx.out; omega
      have hlw := hl'.below hbel (fun b hb => hb)
      obtain ⟨b, o, cs, rfl, hSb, hbl, hsp, hcell⟩ := hlw.elem (List.getElem?_eq_getElem hkx)
      have hsp' := hsp
      obtain ⟨pA, pc, rfl, hpc1, hpc2, _⟩ := hsp
      have c0 := hcell 0 _ rfl
      simp only [rSlice, Nat.add_zero, Nat.mul_one] at c0
      clear hcell hlw
      have Hs : Hid (SlV rDep wr (fun b => b < w.heap.size) ls[k] (.slice pA ls[k].length pc)) := hsp'
      have Hsplit := Lib.hid (fun q hq => allNames_split (q := q) hkx hq)
      have Htk := Lib.hid (allNames_take hkx)
      have hkn : (k : Int) < (n : Int) := by omega
      have hm63 : ls[k].length ≤ 9223372036854775807 := by unfold maxLen at hpc2; omega
      clear hsp' hpc1 hpc2
      generalize hd : allNames (ls.take k) = done at *
      have Hd := Lib.hid hd; clear hd
      generalize hll : ls[k] = l at *
      have Hll := Lib.hid hll; clear hll
      have hm0 : ∃ m, m = l.length := ⟨_, rfl⟩
      obtain ⟨m, hm0⟩ := hm0
      rw [← hm0] at c0 hm63
      have Hm := Lib.hid hm0; clear hm0
      have Hsw : Hid (∀ W, Below w.heap.size w W → SlV rDep W (fun b => b < w.heap.size) l (.slice pA m pc)) := by
        intro W hW
        rw [Hm.out]
        exact Hs.out.keep (fun b hb _ => (hW.block b hb).trans (hbel.block b hb).symm)
      obtain ⟨wo, rfl⟩ : ∃ wo : World, wo = wr := ⟨_, rfl⟩
      go_wp2_with fail
      go_loopw [17] (fun j wq => ∃ q : Nat, q ≤ m ∧ j = .int .i64 q ∧ Hid (MapC wq w.heap.size (done ++ namesOf (l.take q))) ∧ Hid ((done ++ namesOf (l.take q)).Nodup) ∧ Below w.heap.size w wq) (fun j _ => m - (intOf j).toNat)
      case atStart => exact ⟨0, Nat.zero_le _, rfl, by simpa [namesOf] using hM, by simpa [namesOf] using hnd, hbel⟩
      case round =>
        obtain ⟨q, hq, rfl, hMq, hndq, hbelq⟩ := hrel
        have hbwq := hbelq.size
        by_cases hlq : q < m
        · have hqx : q < l.length := by have := Hm.out; omega
          obtain ⟨b', o', cs', hA', hSb', hbl', ⟨s1, rfl, hnm', hrg'⟩, hcell'⟩ := (Hsw.out _ hbelq).elem (List.getElem?_eq_getElem hqx)
          obtain ⟨rA, rc, rfl, _, _⟩ := hrg'.val
          subst hA'
          have e0 := hcell' 0 _ rfl
          have e1 := hcell' 1 _ rfl
          simp only [rDep, Nat.add_zero] at e0 e1
          have Htq := Lib.hid (namesOf_take hqx)
          have Hspq := Lib.hid (Hsplit.out q hqx)
          have hlt9 : (done ++ namesOf (l.take q)).length ≤ 1000000000 := by
            obtain ⟨r0, hr0⟩ := Hspq.out
            have h1 := congrArg List.length hr0
            have h2 := Hmax.out
            rw [Htq.out] at h1
            simp only [List.length_append] at *
            omega
          clear hcell' hrg'
          generalize l[q].name = x at *
          generalize l[q].range.length = rl at *
          have hqm : (q : Int) < (m : Int) := by omega
          have hb9 : b' ≠ wr.heap.size := by omega
          obtain ⟨w2, s1, s2, s3, s4, s5⟩ := seen_step ((hMq.out).keep ((Below.refl _ _).alloc (Nat.le_refl _) (.cells #[.string x, .slice rA rl rc] 97))) hnm' hlt9
          have hM1 := hMq.out.lt
          have f0 : w2.cell? ⟨wr.heap.size, 0, none⟩ = some (.string x) := by
            have h1 := s3.block wr.heap.size (by simp) (by simp; omega)
            exact (cell_same h1 _ _).trans (by simp)
          have HB2 : Hid (Below w.heap.size w w2) := (bal hbelq _).grown s3 (Nat.le_trans hbwq (by simp)) (fun g hg => by injection hg with hg; omega)
          have S5 := Lib.hid s5
          have hcb := cnt_bounds x (done ++ namesOf (l.take q))
          clear s3 s5
          by_cases hin : x ∈ done ++ namesOf (l.take q)
          · have hnn : ¬ (allNames ls).Nodup := by
              obtain ⟨r0, hr0⟩ := Hspq.out
              rw [Htq.out] at hr0
              exact not_nodup_of (d := done ++ namesOf (l.take q)) (r := r0) (by rw [hr0]; simp [List.append_assoc]) hin
            have He := Lib.hid (Hneg.out hnn)
            rw [cnt_in hin] at s1 s2 s4
            rw [show (1 : Int) + 1 = 2 from rfl] at s2 s4
            clear hnn hin hcb Hspq Htq S5 hlt9
            go_wp2_with fail
            go_ret
            exact ⟨ret_bool He.out.symm, HB2.out⟩
          · have Hn2 : Hid (MapC w2 w.heap.size (done ++ namesOf (l.take (q + 1)))) := by
              unfold Hid; rw [Htq.out, ← List.append_assoc]; exact S5.out hin
            have Hn3 : Hid ((done ++ namesOf (l.take (q + 1))).Nodup) := by
              unfold Hid; rw [Htq.out, ← List.append_assoc]
              rw [List.nodup_append]
              exact ⟨hndq.out, by simp, fun a ha b hb => by
                simp at hb; subst hb; intro e; exact hin (e ▸ ha)⟩
            rw [cnt_out hin] at s1 s2 s4
            rw [show (0 : Int) + 1 = 1 from rfl] at s2 s4
            clear hin hcb Hspq Htq S5 hlt9
            go_wp2_with fail
            go_roundw
            case rel => exact ⟨q + 1, by omega, by go_num, Hn2, Hn3, HB2.out⟩
            case measure => simp [intOf]; omega
        · have hqm : q = m := by omega
          have htq : l.take q = l := by have := Hm.out; rw [hqm, this]; exact List.take_length
          have Hn2 : Hid (MapC wr w.heap.size (allNames (ls.take (k + 1)))) := by unfold Hid; rw [Htk.out]; have := hMq.out; rwa [htq] at this
          have Hn3 : Hid ((allNames (ls.take (k + 1))).Nodup) := by unfold Hid; rw [Htk.out]; have := hndq.out; rwa [htq] at this
          clear htq
          go_wp2_with fail
          go_roundw
          case rel => exact ⟨k + 1, by omega, by go_num, Hn2, Hn3, hbelq⟩
          case measure => simp [intOf]; omega
    · have hkl : k = ls.length := by have := Hnx.out; omega
      have hn2 := hnd.out
      rw [hkl, List.take_length] at hn2
      have He := Lib.hid (Hpos.out hn2)
      clear hkl hn2
      go_wp2_with fail
      go_ret
      exact ⟨ret_bool He.out.symm, hbel⟩
end Go.Proofs.YtanipbpphbkmcaaDoor
