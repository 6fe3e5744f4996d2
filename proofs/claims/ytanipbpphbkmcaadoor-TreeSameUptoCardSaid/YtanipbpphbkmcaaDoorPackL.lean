/-
  The program's pack.lines (a Builder), walked.
-/
import Derived.Test.YtanipbpphbkmcaaDoorPackR
import Derived.Test.YtanipbpphbkmcaaDoorSpanT
import Derived.Test.YtanipbpphbkmcaaDoorBuilder
set_option autoImplicit false
set_option relaxedAutoImplicit false
set_option linter.unusedVariables false
set_option linter.unusedSimpArgs false
namespace Go.Proofs.YtanipbpphbkmcaaDoor
open Go.Rows Go.RowKit Go.Shelf Go.Sort

theorem strCells_append (a b : ByteArray) : Lib.strCells (a ++ b) = Lib.strCells a ++ Lib.strCells b := by
  simp [Lib.strCells, ByteArray.data_append]

set_option maxHeartbeats 1600000 in
set_option maxRecDepth 100000 in
theorem lines_any (word : ByteArray) (hword : word.size ≤ 10) (A : Option Addr) (n c : Nat) (l : List Dep) (w : World) (S : Nat → Prop) (B b : Nat) (bs : List Value)
    (h16 : l.length ≤ 16) (hsm : ∀ d ∈ l, d.name.size ≤ 16) (hT : ∀ W, Below B w W → Tab W) (hl : SlV rDep w S l (.slice A n c)) (hS : ∀ b, S b → b < B)
    (hB : IsB B b bs w) (hbs : bs.length ≤ 1000000) (hBw : B ≤ w.heap.size) :
    Calls Tryd.prog 78 #[.pointer (some ⟨b, 0, none⟩), .string word, .slice A n c] w fun e w' => e = .returned (.tuple #[]) ∧ IsB B b (bs ++ Lib.strCells (linesD word l)) w' ∧ Below B w w' := by
  have hnx := hl.n_eq
  have hn63 : n ≤ 16 := by omega
  have Hsm := Lib.hid hsm; clear hsm
  have HT := Lib.hid hT; clear hT
  have HS := Lib.hid hS; clear hS
  have HB := Lib.hid hB; clear hB
  have Hend : Hid (linesD word l = linesD word (l.take l.length)) := by unfold Hid; rw [List.take_length]
  have Hnx := Lib.hid hnx; clear hnx
  generalize hR : linesD word l = R at *
  clear hR
  go_enter Tryd.func78, Tryd.ntmps78
  go_wp2_with fail
  go_loopw [10] (fun i wr => ∃ (k : Nat), k ≤ n ∧ i = .int .i64 k ∧ Hid (IsB B b (bs ++ Lib.strCells (linesD word (l.take k))) wr) ∧ Below B w wr) (fun i _ => n - (intOf i).toNat)
  case atStart => exact ⟨0, Nat.zero_le _, rfl, by have := HB.out; simpa [Hid, linesD, Lib.strCells] using this, Below.refl _ _⟩
  case round =>
    obtain ⟨k, hk, rfl, hIB, hbel⟩ := hrel
    by_cases hlt : k < n
    · have hkx : k < l.length := by have := Hnx.out; omega
      obtain ⟨bb, o, cs, rfl, _, hb1, ⟨s0, rfl, hnm, hr0⟩, hcell⟩ := (hl.below hbel HS.out).elem (List.getElem?_eq_getElem hkx)
      obtain ⟨pA, pc, rfl, _, _⟩ := hr0.val
      have c0 := hcell 0 _ rfl
      have c1 := hcell 1 _ rfl
      simp only [rDep, Nat.add_zero] at c0 c1
      have Htk := Lib.hid (linesD_take word hkx)
      have hz0 : (linesD word (l.take k)).size ≤ 33600 := by
        have h1 := linesD_le (word := word) (l := l.take k) hword (fun d hd => Hsm.out d (List.mem_of_mem_take hd))
        have h2 : (l.take k).length ≤ 16 := by simp; omega
        omega
      have hz1 := Hsm.out l[k] (List.getElem_mem hkx)
      have hz2 := spansText_le l[k].range
      have hk0 : (0 : Int) ≤ (k : Int) := by omega
      have hkn : (k : Int) < (n : Int) := by omega
      have hBr : B ≤ wr.heap.size := Nat.le_trans hBw hbel.size
      have Ht : Hid (Tab wr) := HT.out _ hbel
      have Hc : Hid (∀ o : Obj, ∀ d os, Calls Tryd.prog 88 #[.slice pA l[k].range.length pc] (grow (redrawn (wr.alloc o) d) os) fun e w'' => e = .returned (.string (spansText l[k].range)) ∧ ∃ p : Regrown, w'' = grow (redrawn (wr.alloc o) p.d) p.os) :=
        fun o => qcall (w := wr.alloc o) (fun W hW => spanPrint_any pA _ pc l[k].range W _ (tab_below (tab_below Ht.out (bal (Below.refl _ _) o)) hW) ((hr0.alloc o).belowSize hW))
      have Hln : Hid (lineD word l[k] = word ++ spaceB ++ l[k].name ++ spaceB ++ spansText l[k].range ++ nlB) := rfl
      have Hlen : Hid ((bs ++ Lib.strCells (linesD word (l.take k))).length ≤ 1033600) := by unfold Hid; rw [List.length_append, Lib.strCells_length]; omega
      clear hcell hr0 hz0
      generalize lineD word l[k] = line at *
      generalize l[k].name = x at *
      generalize spansText l[k].range = t at *
      generalize l[k].range.length = rl at *
      have z1 : spaceB.size = 1 := rfl
      have z2 : nlB.size = 1 := rfl
      have A1 : ∀ W : World, (Op.stringOp .add word ⟨#[32]⟩).run Tryd.prog W = .ok (.string (word ++ spaceB)) W := fun W => run_string_add_sum W _ spaceB (by omega)
      have A2 : ∀ W : World, (Op.stringOp .add (word ++ spaceB) x).run Tryd.prog W = .ok (.string (word ++ spaceB ++ x)) W := fun W => run_string_add_sum W _ _ (by simp only [ByteArray.size_append]; omega)
      have A3 : ∀ W : World, (Op.stringOp .add (word ++ spaceB ++ x) ⟨#[32]⟩).run Tryd.prog W = .ok (.string (word ++ spaceB ++ x ++ spaceB)) W := fun W => run_string_add_sum W _ spaceB (by simp only [ByteArray.size_append]; omega)
      have A4 : ∀ W : World, (Op.stringOp .add (word ++ spaceB ++ x ++ spaceB) t).run Tryd.prog W = .ok (.string (word ++ spaceB ++ x ++ spaceB ++ t)) W := fun W => run_string_add_sum W _ _ (by simp only [ByteArray.size_append]; omega)
      have A5 : ∀ W : World, (Op.stringOp .add (word ++ spaceB ++ x ++ spaceB ++ t) ⟨#[10]⟩).run Tryd.prog W = .ok (.string line) W := fun W => by rw [Hln.out]; exact run_string_add_sum W _ nlB (by simp only [ByteArray.size_append]; omega)
      have Hlz : Hid (line.size ≤ 2100) := by unfold Hid; rw [Hln.out]; simp only [ByteArray.size_append]; omega
      clear z1 z2 hz1 hz2 Hln
      go_wp2_with fail
      have a0 : (wr.alloc (.cells #[.string x, .slice pA rl pc] 97)).cell? ⟨wr.heap.size, 0, none⟩ = some (.string x) := by simp [go_sem]
      have a1 : (wr.alloc (.cells #[.string x, .slice pA rl pc] 97)).cell? ⟨wr.heap.size, 1, none⟩ = some (.slice pA rl pc) := by simp [go_sem]
      have r_a0 := cell_regrown a0
      have r_a1 := cell_regrown a1
      refine wp_region_qb_tail 12 (by kernel_rfl) (by kernel_rfl) ?_
      simp only [List.take_succ_cons, List.take_zero, List.drop_succ_cons, List.drop_zero]
      repeat (go_big_quiet_step (first | (with_reducible exact Hc.out _ _ _)))
      refine wpQuiet_nil ?_
      intro w1 B1
      have hbr1 : Below wr.heap.size wr w1 := bnew B1
      have HB1 : Hid (IsB B b (bs ++ Lib.strCells (linesD word (l.take k))) w1) := hIB.out.keep hbr1
      have hbel1 : Below B w w1 := hbel.trans (hbr1.mono hBr)
      have Hbel1 := Lib.hid hbel1; clear hbel1
      have hBw1 : B ≤ w1.heap.size := Nat.le_trans hBr hbr1.size
      have HBw1 := Lib.hid hBw1; clear hBw1
      have Hlen1 : Hid ((bs ++ Lib.strCells (linesD word (l.take k))).length + line.size ≤ 140737488355328) := by unfold Hid; have := Hlen.out; have := Hlz.out; omega
      clear A1 A2 A3 A4 A5 hbr1 B1 Hc r_a0 r_a1 a0 a1 c0 c1
      go_wp2_with fail
      refine (writeString_any _ _ _ line _ HB1.out Hlen1.out HBw1.out).mono ?_
      rintro e w2 ⟨rfl, hB2, hb2⟩
      have HB2 : Hid (IsB B b (bs ++ Lib.strCells (linesD word (l.take (k + 1)))) w2) := by
        unfold Hid; rw [Htk.out, strCells_append, ← List.append_assoc]; exact .inr hB2
      have Hbel2 := Lib.hid (Hbel1.out.trans hb2); clear hb2 hB2
      go_wp2_with fail
      go_roundw
      case rel => exact ⟨k + 1, by omega, by go_num, HB2, Hbel2.out⟩
      case measure => simp [intOf]; omega
    · have He : Hid (R = linesD word (l.take k)) := by
        unfold Hid; rw [Hend.out, show k = l.length from by have := Hnx.out; omega]
      go_wp2_with fail
      go_end0
      refine ⟨rfl, ?_, hbel⟩
      rw [He.out]; exact hIB.out

end Go.Proofs.YtanipbpphbkmcaaDoor
