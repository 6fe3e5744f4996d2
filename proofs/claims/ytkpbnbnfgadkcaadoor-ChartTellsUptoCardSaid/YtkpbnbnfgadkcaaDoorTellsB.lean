/-
  The program's Text of a drawing, walked.
-/
import Derived.Test.YtkpbnbnfgadkcaaDoorTellsA
set_option autoImplicit false
set_option relaxedAutoImplicit false
set_option linter.unusedVariables false
set_option linter.unusedSimpArgs false
namespace Go.Proofs.YtkpbnbnfgadkcaaDoor
open Go.Rows Go.RowKit Go.Shelf Go.Sort

def tellV (r : Option ByteArray) : Ending := .returned (.tuple #[.string (r.getD ⟨#[]⟩), .int .i64 (codeOf r)])

set_option maxHeartbeats 1000000 in
theorem chText_any (A : Option Addr) (n c : Nat) (l : List Spot) (w : World) (S : Nat → Prop) (hn63 : n ≤ 9223372036854775807) (hlen : ∀ s ∈ l, s.path.length ≤ 1048576)
    (ht : ∀ W, Below w.heap.size w W → Tab W) (hl : SlV rSpot w S l (.slice A n c)) :
    Calls Tryd.prog 9 #[.slice A n c] w fun e w' => e = tellV (tellR l) ∧ Below w.heap.size w w' := by
  have hnx := hl.n_eq
  have Hc := Lib.hid (may_any A n c l w S hn63 hl)
  have Hnx := Lib.hid hnx; clear hnx
  have Ht := Lib.hid ht; clear ht
  by_cases hm : mayB l = true
  · rw [hm] at Hc
    obtain ⟨h257, hfar⟩ := mayB_far hm
    have hyes : l.all pathOk = true → tellR l = some ⟨(linesB l).toArray⟩ := fun h => by unfold tellR; rw [hm, h]; rfl
    have hno : l.all pathOk = false → tellR l = none := fun h => by unfold tellR; rw [hm, h]; rfl
    have Hyes := Lib.hid hyes; clear hyes
    have Hno := Lib.hid hno; clear hno
    have Hfar := Lib.hid hfar; clear hfar
    have Hlen := Lib.hid hlen; clear hlen
    have H257 := Lib.hid h257; clear h257
    clear hm
    generalize hR : tellR l = R at *
    clear hR
    go_enter Tryd.func9, Tryd.ntmps9
    go_wp2_with fail
    refine Hc.out.mono ?_
    rintro e w1 ⟨rfl, hbl⟩
    have hl' := (hl.belowSize hbl).more (S' := fun b => b < w1.heap.size) fun b hb hlt => hlt
    clear hl Hc
    go_wp2_with fail
    go_loopw [12] (fun i wr => ∃ k : Nat, k ≤ n ∧ i = .int .i64 k ∧ Hid (IsB w1.heap.size w1.heap.size (Lib.byteCells (linesB (l.take k))) wr) ∧ Below w1.heap.size w1 wr ∧ Hid ((l.take k).all pathOk = true)) (fun i _ => n - (intOf i).toNat)
    case atStart => exact ⟨0, Nat.zero_le _, rfl, Lib.fresh_isBuilder _ _ _, (Below.refl _ _).alloc (Nat.le_refl _) _, rfl⟩
    case round =>
      obtain ⟨k, hk, rfl, hB, hbel, hall⟩ := hrel
      have hbw := hbel.size
      by_cases hlt : k < n
      · have hkx : k < l.length := by have := Hnx.out; omega
        have hlw := hl'.below hbel (fun b hb => hb)
        obtain ⟨b, o, cs, rfl, hSb, hb1, hsp, hcell⟩ := hlw.elem (List.getElem?_eq_getElem hkx)
        obtain ⟨p, rfl, hp, hx, hy⟩ := hsp
        obtain ⟨pA, pc, rfl, hpc, hpm⟩ := hp.val
        have hc0 := hcell 0 _ rfl
        have hc1 := hcell 1 _ rfl
        have hc2 := hcell 2 _ rfl
        simp only [rSpot, Nat.add_zero] at hc0 hc1 hc2
        have hkn : (k : Int) < (n : Int) := by omega
        have Htk := Lib.hid (linesB_take hkx)
        have Hall := Lib.hid (fun h => all_take (p := pathOk) hkx hall.out h)
        have Hnot := Lib.hid (fun h => Hno.out (all_no (p := pathOk) hkx h))
        obtain ⟨hf1, hf2⟩ := Hfar.out l[k] (List.getElem_mem hkx)
        have hf3 := Hlen.out l[k] (List.getElem_mem hkx)
        have hLk := linesB_len (l := l.take k) (fun s hs => Hfar.out s (List.mem_of_mem_take hs)) hall.out (fun s hs => Hlen.out s (List.mem_of_mem_take hs))
        have hlk : (l.take k).length ≤ 256 := by rw [List.length_take]; have := H257.out; omega
        have hLk' : (linesB (l.take k)).length ≤ 76800000000000 := Nat.le_trans hLk (Nat.mul_le_mul_left _ hlk)
        have HLk := Lib.hid hLk'
        clear hLk hlk hLk'
        have hline : pathOk l[k] = true → (lineB l[k]).size ≤ 300000000000 := fun h => lineB_size hf1 hf2 h hf3
        have hil : pathOk l[k] = true → (textB l[k].path).size ≤ 25 * 1048576 + 1 := fun h => Nat.le_trans (textB_size h) (by omega)
        have hix := itoaB_size hf1
        have hiy := itoaB_size hf2
        have hpl : l[k].path.length * 32 ≤ 140737488355328 := by omega
        have hp63 : l[k].path.length ≤ 9223372036854775807 := by omega
        generalize hs : l[k] = s at *
        obtain ⟨path, x, y⟩ := s
        simp only at hc0 hc1 hc2 hix hiy hpl hp hx hy hil hp63
        clear hs hcell hlw hf1 hf2 hf3 hpc hpm
        have hSp : ∀ b, b < w1.heap.size → b < wr.heap.size := fun b hb => by omega
        have Hcon : Hid (∀ o : Obj, Calls Tryd.prog 15 #[.slice pA path.length pc, .func (.func 16) #[] #[]] (wr.alloc o) fun e w' => e = .returned (.bool (!path.all nameB)) ∧ Below (wr.alloc o).heap.size (wr.alloc o) w') := fun o => by
          have := containsFuncStr 16 #[] (fun s => !nameB s) pA path.length pc path (wr.alloc o) _ hp63 (hp.alloc o) (fun W s hs => text1_any W s hs) enters_text1
          rwa [all_not_any] at this
        cases hq : path.all nameB
        · have He := Lib.hid (Hnot.out hq)
          rw [hq] at Hcon
          clear Hall Hnot hq hp hline hil hix hiy
          go_wp2_with fail
          refine (Hcon.out _).mono ?_
          rintro e w2 ⟨rfl, hb2⟩
          go_wp2_with fail
          go_ret2
          refine ⟨by unfold tellV; rw [He.out]; rfl, hbl.trans ((hbel.trans (((Below.refl _ _).alloc (Nat.le_refl _) _).trans (hb2.mono (by simp)) |>.mono hbw)).mono hbl.size)⟩
        · have Hk1 := Lib.hid (Hall.out hq)
          have Hline := Lib.hid (hline hq)
          have Hil := Lib.hid (hil hq)
          rw [hq] at Hcon
          have Hp := Lib.hid hp
          have Hx := Lib.hid hx
          have Hy := Lib.hid hy
          clear Hall Hnot hq hp hline hil hx hy
          go_wp2_with fail
          refine (Hcon.out _).mono ?_
          rintro e w2 ⟨rfl, hb2⟩
          have hz2 : wr.heap.size < w2.heap.size := by have := hb2.size; simp at this; omega
          have hB2 : Below wr.heap.size wr w2 := ((Below.refl _ _).alloc (Nat.le_refl _) _).trans (hb2.mono (by simp))
          have e0 := hb2.cell (p := ⟨wr.heap.size, 0, none⟩) (by simp)
          have e1 := hb2.cell (p := ⟨wr.heap.size, 1, none⟩) (by simp)
          have e2 := hb2.cell (p := ⟨wr.heap.size, 2, none⟩) (by simp)
          simp [go_sem] at e0 e1 e2
          have hIs := hB.out.keep hB2
          have HIs := Lib.hid hIs; clear hIs hB
          have hbel2 := hbel.trans (hB2.mono hbw)
          have Hb0 : Hid (Below w.heap.size w w2) := hbl.trans (hbel2.mono hbl.size)
          have Htab : Hid (∀ W, Below w2.heap.size w2 W → Tab W) := fun W hW => Ht.out W (Hb0.out.trans (hW.mono Hb0.out.size))
          have Hc1 := Lib.hid (qcall (w := w2) (fun W hW => itoa_any x Hx.out W (Htab.out W hW)))
          have Hc2 := Lib.hid (qcall (w := w2) (fun W hW => itoa_any y Hy.out W (Htab.out W hW)))
          have Hpw : Hid (SlV rStr w2 (fun b => b < w1.heap.size) path (.slice pA path.length pc)) := Hp.out.below hB2 (fun b hb => hSp b hb)
          have Hc3 := Lib.hid (qcall (w := w2) (fun W hW => treeText_any pA path.length pc path W (fun b => b < w1.heap.size) (fun b hb => by have := hW.size; have := hSp b hb; omega) hpl (Hpw.out.belowSize hW)))
          have k0 := cell_regrown e0
          have k1 := cell_regrown e1
          have k2 := cell_regrown e2
          clear hb2 e0 e1 e2 hbel Hcon hc0 hc1 hc2
          have A1 : ∀ W : World, (Op.stringOp .add (itoaB x) ⟨#[32]⟩).run Tryd.prog W = .ok (.string (itoaB x ++ ⟨#[32]⟩)) W := fun W => run_string_add_sum W _ _ (by rw [size_one]; omega)
          have A2 : ∀ W : World, (Op.stringOp .add (itoaB x ++ ⟨#[32]⟩) (itoaB y)).run Tryd.prog W = .ok (.string (itoaB x ++ ⟨#[32]⟩ ++ itoaB y)) W := fun W => run_string_add_sum W _ _ (by rw [ByteArray.size_append, size_one]; omega)
          have A3 : ∀ W : World, (Op.stringOp .add (itoaB x ++ ⟨#[32]⟩ ++ itoaB y) ⟨#[32]⟩).run Tryd.prog W = .ok (.string (itoaB x ++ ⟨#[32]⟩ ++ itoaB y ++ ⟨#[32]⟩)) W := fun W => run_string_add_sum W _ _ (by rw [ByteArray.size_append, ByteArray.size_append, size_one]; omega)
          have A4 : ∀ W : World, (Op.stringOp .add (itoaB x ++ ⟨#[32]⟩ ++ itoaB y ++ ⟨#[32]⟩) (textB path)).run Tryd.prog W = .ok (.string (itoaB x ++ ⟨#[32]⟩ ++ itoaB y ++ ⟨#[32]⟩ ++ textB path)) W := fun W => run_string_add_sum W _ _ (by have := Hil.out; rw [ByteArray.size_append, ByteArray.size_append, ByteArray.size_append, size_one]; omega)
          have A5 : ∀ W : World, (Op.stringOp .add (itoaB x ++ ⟨#[32]⟩ ++ itoaB y ++ ⟨#[32]⟩ ++ textB path) ⟨#[10]⟩).run Tryd.prog W = .ok (.string (lineB ⟨path, x, y⟩)) W := fun W => run_string_add_sum W _ _ (by have := Hil.out; rw [ByteArray.size_append, ByteArray.size_append, ByteArray.size_append, ByteArray.size_append, size_one, size_one]; omega)
          go_wp2_with fail
          refine wp_region_below_tail 14 (by kernel_rfl) (by kernel_rfl) ?_
          simp only [List.take_succ_cons, List.take_zero, List.drop_succ_cons, List.drop_zero]
          repeat (go_big_quiet_step (first | (with_reducible exact Hc1.out _ _) | (with_reducible exact Hc2.out _ _) | (with_reducible exact Hc3.out _ _)))
          refine wpQuiet_nil ?_
          intro w3 hw3
          obtain ⟨⟨dq, osq⟩, rfl⟩ := hw3
          have hb3 := below_regrown w2 dq osq
          generalize grow (redrawn w2 dq) osq = w3 at *
          have HIs3 := Lib.hid (HIs.out.keep hb3)
          have hbel3 := hbel2.trans (hb3.mono hbel2.size)
          have hlen3 : (Lib.byteCells (linesB (l.take k))).length + (lineB ⟨path, x, y⟩).size ≤ 140737488355328 := by
            rw [Lib.byteCells_length]; have := HLk.out; have := Hline.out; omega
          have Hlen3 := Lib.hid hlen3; clear hlen3
          have hsz3 := hbel3.size
          have Hbel3 := Lib.hid hbel3; clear hbel3 hb3 A1 A2 A3 A4 A5 k0 k1 k2
          generalize lineB ⟨path, x, y⟩ = line at *
          go_wp2_with fail
          refine (writeString_any _ _ _ line _ HIs3.out Hlen3.out hsz3).mono ?_
          rintro e w4 ⟨rfl, hB4, hb4⟩
          have hB4' : IsB w1.heap.size w1.heap.size (Lib.byteCells (linesB (l.take (k + 1)))) w4 := .inr (by rw [Htk.out, Lib.byteCells_append]; exact hB4)
          have HB4 := Lib.hid hB4'; clear hB4 hB4' HIs3
          have Hb4 := Lib.hid (Hbel3.out.trans hb4); clear hb4
          go_wp2_with fail
          go_roundw
          case rel => exact ⟨k + 1, by omega, by go_num, HB4, Hb4.out, Hk1⟩
          case measure => simp [intOf]; omega
      · have hkn : k = n := by omega
        have htake : l.take k = l := by have := Hnx.out; rw [hkn, this]; exact List.take_length
        have He := Lib.hid (Hyes.out (by rw [← htake]; exact hall.out))
        have hB' : IsB w1.heap.size w1.heap.size (Lib.byteCells (linesB l)) wr := by rw [← htake]; exact hB.out
        have HB := Lib.hid hB'; clear hB' hB htake hall
        have Hbel : Hid (Below w.heap.size w wr) := hbl.trans (hbel.mono hbl.size)
        have hzz := hbl.size
        clear hbel hbl
        subst hkn
        go_wp2_with fail
        refine (Tryd.Builder_String_any _ _ _ _ HB.out hbw).mono ?_
        rintro e w2 ⟨rfl, hb2⟩
        go_wp2_with fail
        go_ret2
        exact ⟨by unfold tellV; rw [He.out]; rfl, Hbel.out.trans (hb2.mono hzz)⟩
  · rw [Bool.not_eq_true] at hm
    rw [hm] at Hc
    have He : Hid (tellR l = none) := by unfold Hid tellR; rw [hm]; rfl
    clear hm hl
    generalize tellR l = R at *
    go_enter Tryd.func9, Tryd.ntmps9
    go_wp2_with fail
    refine Hc.out.mono ?_
    rintro e w1 ⟨rfl, hbl⟩
    go_wp2
    go_ret2
    exact ⟨by unfold tellV; rw [He.out]; rfl, hbl⟩
end Go.Proofs.YtkpbnbnfgadkcaaDoor
