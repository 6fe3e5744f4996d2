/-
  The document's Text, Weight and Box of a drawing, walked.
-/
import Derived.Test.YtkpbnbnfgadkcaaDoorTellsB
import Derived.Test.YtkpbnbnfgadkcaaDoorAlike
import Derived.Test.YtkpbnbnfgadkcaaDoorBox
set_option autoImplicit false
set_option relaxedAutoImplicit false
set_option linter.unusedVariables false
set_option linter.unusedSimpArgs false
namespace Go.Proofs.YtkpbnbnfgadkcaaDoor
open Go.Rows Go.RowKit Go.Shelf Go.Sort

theorem line_join {acc : ByteArray} {L : List UInt8} (s : Spot) (h : acc = ⟨L.toArray⟩) :
    (acc ++ itoaB s.x ++ ⟨#[32]⟩ ++ itoaB s.y ++ ⟨#[32]⟩ ++ textB s.path ++ ⟨#[10]⟩ : ByteArray) = ⟨(L ++ (lineB s).data.toList).toArray⟩ := by
  subst h
  apply ByteArray.ext
  simp [lineB, ByteArray.data_append]

set_option maxHeartbeats 1000000 in
set_option maxRecDepth 100000 in
theorem refTell_any (A : Option Addr) (n c : Nat) (l : List Spot) (w : World) (S : Nat → Prop) (hn63 : n ≤ 9223372036854775807) (hlen : ∀ s ∈ l, s.path.length ≤ 1048576)
    (hl : SlV rSpot w S l (.slice A n c)) :
    Calls Tryd.prog 10 #[.slice A n c] w fun e w' => e = tellV (tellR l) ∧ Below w.heap.size w w' := by
  have hnx := hl.n_eq
  have Hc := Lib.hid (refMay_any A n c l w S hn63 hl)
  have Hnx := Lib.hid hnx; clear hnx
  by_cases hm : mayB l = true
  · rw [hm] at Hc
    obtain ⟨h257, hfar⟩ := mayB_far hm
    have hyes : l.all pathOk = true → tellR l = some ⟨(linesB l).toArray⟩ := fun h => by unfold tellR; rw [hm, h]; rfl
    have hno : l.all pathOk = false → tellR l = none := fun h => by unfold tellR; rw [hm, h]; rfl
    have Hyes := Lib.hid hyes; clear hyes
    have Hno := Lib.hid hno; clear hno
    have Hfar := Lib.hid hfar; clear hfar
    have Hlen := Lib.hid hlen; clear hlen
    have H257 := Lib.hid h257; clear h257
    clear hm
    generalize hR : tellR l = R at *
    clear hR
    have hl' := hl.more (S' := fun b => b < w.heap.size) fun b hb hlt => hlt
    clear hl
    go_enter Tryd.func10, Tryd.ntmps10
    go_wp2_with fail
    refine Hc.out.mono ?_
    rintro e w1 ⟨rfl, rfl⟩
    clear Hc
    go_wp2_with fail
    go_loopw [4, 5] (fun t i wr => ∃ (k : Nat) (acc : ByteArray), k ≤ n ∧ t = .string acc ∧ i = .int .i64 k ∧ Hid (acc = ⟨(linesB (l.take k)).toArray⟩) ∧ Below w.heap.size w wr ∧ Hid ((l.take k).all pathOk = true)) (fun _ i _ => n - (intOf i).toNat)
    case atStart => exact ⟨0, ⟨#[]⟩, Nat.zero_le _, rfl, rfl, rfl, Below.refl _ _, rfl⟩
    case round =>
      obtain ⟨k, acc, hk, rfl, rfl, hacc, hbel, hall⟩ := hrel
      have hbw := hbel.size
      by_cases hlt : k < n
      · have hkx : k < l.length := by have := Hnx.out; omega
        have hlw := hl'.below hbel (fun b hb => hb)
        obtain ⟨b, o, cs, rfl, hSb, hb1, hsp, hcell⟩ := hlw.elem (List.getElem?_eq_getElem hkx)
        obtain ⟨p, rfl, hp, hx, hy⟩ := hsp
        obtain ⟨pA, pc, rfl, hpc, hpm⟩ := hp.val
        have hc0 := hcell 0 _ rfl
        have hc1 := hcell 1 _ rfl
        have hc2 := hcell 2 _ rfl
        simp only [rSpot, Nat.add_zero] at hc0 hc1 hc2
        have hkn : (k : Int) < (n : Int) := by omega
        have Htk := Lib.hid (linesB_take hkx)
        have Hall := Lib.hid (fun h => all_take (p := pathOk) hkx hall.out h)
        have Hnot := Lib.hid (fun h => Hno.out (all_no (p := pathOk) hkx h))
        obtain ⟨hf1, hf2⟩ := Hfar.out l[k] (List.getElem_mem hkx)
        have hf3 := Hlen.out l[k] (List.getElem_mem hkx)
        have hLk := linesB_len (l := l.take k) (fun s hs => Hfar.out s (List.mem_of_mem_take hs)) hall.out (fun s hs => Hlen.out s (List.mem_of_mem_take hs))
        have hlk : (l.take k).length ≤ 256 := by rw [List.length_take]; have := H257.out; omega
        have hLk' : (linesB (l.take k)).length ≤ 76800000000000 := Nat.le_trans hLk (Nat.mul_le_mul_left _ hlk)
        have HLk : Hid (acc.size ≤ 76800000000000) := by unfold Hid; rw [hacc.out]; simpa [ByteArray.size] using hLk'
        clear hLk hlk hLk'
        have Hil := Lib.hid (fun h : pathOk l[k] = true => Nat.le_trans (textB_size h) (show 25 * l[k].path.length + 1 ≤ 26214401 by omega))
        have hix := itoaB_size hf1
        have hiy := itoaB_size hf2
        have hpl : l[k].path.length * 32 ≤ 140737488355328 := by omega
        have hp63 : l[k].path.length ≤ 9223372036854775807 := by omega
        have HJ := Lib.hid (line_join l[k] hacc.out)
        generalize hs : l[k] = s at *
        obtain ⟨path, x, y⟩ := s
        simp only at hc0 hc1 hc2 hix hiy hpl hp hx hy hp63
        clear hs hcell hlw hf1 hf2 hf3 hpc hpm
        have Hx := Lib.hid hx
        have Hy := Lib.hid hy
        have Hp := Lib.hid hp
        have hac : Hid (pathOk ⟨path, x, y⟩ = path.all nameB) := rfl
        clear hx hy hp
        have hm0 : ∃ m, m = path.length := ⟨_, rfl⟩
        obtain ⟨m, hm0⟩ := hm0
        rw [← hm0] at hc0 hp63
        have Hm := Lib.hid hm0; clear hm0
        obtain ⟨wo, rfl⟩ : ∃ wo : World, wo = wr := ⟨_, rfl⟩
        go_wp2_with fail
        go_loop [6] (fun j => ∃ q : Nat, q ≤ m ∧ j = .int .i64 q ∧ Hid ((path.take q).all nameB = true)) (fun j => m - (intOf j).toNat)
        case atStart => exact ⟨0, Nat.zero_le _, rfl, rfl⟩
        case round =>
          obtain ⟨q, hq, rfl, hallq⟩ := hrel
          by_cases hlq : q < m
          · have hqx : q < path.length := by have := Hm.out; omega
            obtain ⟨b', o', cs', hA', _, _, hsp', hcell'⟩ := Hp.out.elem (List.getElem?_eq_getElem hqx)
            obtain ⟨rfl, hsz'⟩ := hsp'
            have hd0 := hcell' 0 _ rfl
            simp only [rStr, Nat.add_zero, Nat.mul_one] at hd0
            subst hA'
            have Hallq := Lib.hid (fun h => all_take (p := nameB) hqx hallq.out h)
            have Hnotq := Lib.hid (fun h => all_no (p := nameB) hqx h)
            have Hcn := Lib.hid (refName_any path[q] hsz' wo)
            have hqm : (q : Int) < (m : Int) := by omega
            generalize path[q] = nm at *
            clear hcell' hsz'
            cases hb : nameB nm
            · have He := Lib.hid (Hnot.out (hac.out.trans (Hnotq.out hb)))
              rw [hb] at Hcn
              clear hb Hall Hnot Hallq Hnotq HJ Htk Hil HLk
              go_wp2_with fail
              refine Hcn.out.mono ?_
              rintro e w2 ⟨rfl, rfl⟩
              go_wp2_with fail
              go_ret2
              exact ⟨by unfold tellV; rw [He.out]; rfl, hbel⟩
            · have Hk1 := Lib.hid (Hallq.out hb)
              rw [hb] at Hcn
              clear hb Hallq Hnotq
              go_wp2_with fail
              refine Hcn.out.mono ?_
              rintro e w2 ⟨rfl, rfl⟩
              go_wp2_with fail
              go_round
              case rel => exact ⟨q + 1, by omega, by go_num, Hk1⟩
              case measure => simp [intOf]; omega
          · have hqm : q = m := by omega
            have htakeq : path.take q = path := by have := Hm.out; rw [hqm, this]; exact List.take_length
            have hpall : path.all nameB = true := by rw [← htakeq]; exact hallq.out
            have Hk1 := Lib.hid (Hall.out (hac.out.trans hpall))
            have hit := Hil.out (hac.out.trans hpall)
            try simp only at hit
            clear htakeq hpall hallq Hall Hnot Hil
            subst hqm
            have Hc1 := Lib.hid (qcall (w := wo) (fun W hW => number_any x Hx.out.1 Hx.out.2 W))
            have Hc2 := Lib.hid (qcall (w := wo) (fun W hW => number_any y Hy.out.1 Hy.out.2 W))
            have Hc3 := Lib.hid (qcall (w := wo) (fun W hW => (refText_any pA q pc path W _ hpl (by have := Hp.out.belowSize hW; rwa [← Hm.out] at this)).mono fun e w' ⟨he, hw⟩ => ⟨he, hw ▸ Below.refl _ _⟩))
            have k0 := cell_regrown hc0
            have k1 := cell_regrown hc1
            have k2 := cell_regrown hc2
            have hz := HLk.out
            have A1 : ∀ W : World, (Op.stringOp .add acc (itoaB x)).run Tryd.prog W = .ok (.string (acc ++ itoaB x)) W := fun W => run_string_add_sum W _ _ (by omega)
            have A2 : ∀ W : World, (Op.stringOp .add (acc ++ itoaB x) ⟨#[32]⟩).run Tryd.prog W = .ok (.string (acc ++ itoaB x ++ ⟨#[32]⟩)) W := fun W => run_string_add_sum W _ _ (by simp only [ByteArray.size_append, size_one]; omega)
            have A3 : ∀ W : World, (Op.stringOp .add (acc ++ itoaB x ++ ⟨#[32]⟩) (itoaB y)).run Tryd.prog W = .ok (.string (acc ++ itoaB x ++ ⟨#[32]⟩ ++ itoaB y)) W := fun W => run_string_add_sum W _ _ (by simp only [ByteArray.size_append, size_one]; omega)
            have A4 : ∀ W : World, (Op.stringOp .add (acc ++ itoaB x ++ ⟨#[32]⟩ ++ itoaB y) ⟨#[32]⟩).run Tryd.prog W = .ok (.string (acc ++ itoaB x ++ ⟨#[32]⟩ ++ itoaB y ++ ⟨#[32]⟩)) W := fun W => run_string_add_sum W _ _ (by simp only [ByteArray.size_append, size_one]; omega)
            have A5 : ∀ W : World, (Op.stringOp .add (acc ++ itoaB x ++ ⟨#[32]⟩ ++ itoaB y ++ ⟨#[32]⟩) (textB path)).run Tryd.prog W = .ok (.string (acc ++ itoaB x ++ ⟨#[32]⟩ ++ itoaB y ++ ⟨#[32]⟩ ++ textB path)) W := fun W => run_string_add_sum W _ _ (by simp only [ByteArray.size_append, size_one]; omega)
            have A6 : ∀ W : World, (Op.stringOp .add (acc ++ itoaB x ++ ⟨#[32]⟩ ++ itoaB y ++ ⟨#[32]⟩ ++ textB path) ⟨#[10]⟩).run Tryd.prog W = .ok (.string (acc ++ itoaB x ++ ⟨#[32]⟩ ++ itoaB y ++ ⟨#[32]⟩ ++ textB path ++ ⟨#[10]⟩)) W := fun W => run_string_add_sum W _ _ (by simp only [ByteArray.size_append, size_one]; omega)
            have hqq : ¬ (q : Int) < (q : Int) := by omega
            go_wp2_with fail
            refine wp_region_quiet_below (by kernel_rfl) (by kernel_rfl) ?_
            repeat (go_big_quiet_step (first | (with_reducible exact Hc1.out _ _) | (with_reducible exact Hc2.out _ _) | (with_reducible exact Hc3.out _ _)))
            refine wpQuiet_nil ?_
            intro w3 hw3
            obtain ⟨⟨dq, osq⟩, rfl⟩ := hw3
            have Hb3 : Hid (Below w.heap.size w (grow (redrawn wo dq) osq)) := below_of_regrown hbel hbw dq osq
            clear A1 A2 A3 A4 A5 A6 k0 k1 k2
            generalize grow (redrawn wo dq) osq = w3 at *
            have Hnew : Hid ((acc ++ itoaB x ++ ⟨#[32]⟩ ++ itoaB y ++ ⟨#[32]⟩ ++ textB path ++ ⟨#[10]⟩ : ByteArray) = ⟨(linesB (l.take (k + 1))).toArray⟩) := by unfold Hid; rw [Htk.out]; exact HJ.out
            generalize (acc ++ itoaB x ++ ⟨#[32]⟩ ++ itoaB y ++ ⟨#[32]⟩ ++ textB path ++ ⟨#[10]⟩ : ByteArray) = acc' at *
            go_wp2_with fail
            go_roundw
            case rel => exact ⟨k + 1, acc', by omega, rfl, by go_num, Hnew, Hb3.out, Hk1⟩
            case measure => simp [intOf]; omega
      · have hkn : k = n := by omega
        have htake : l.take k = l := by have := Hnx.out; rw [hkn, this]; exact List.take_length
        have He := Lib.hid (Hyes.out (by rw [← htake]; exact hall.out))
        have Ha : Hid (acc = ⟨(linesB l).toArray⟩) := by unfold Hid; rw [hacc.out, htake]
        clear htake hall hacc
        subst hkn
        go_wp2_with fail
        go_ret2
        exact ⟨by unfold tellV; rw [He.out, Ha.out]; rfl, hbel⟩
  · rw [Bool.not_eq_true] at hm
    rw [hm] at Hc
    have He : Hid (tellR l = none) := by unfold Hid tellR; rw [hm]; rfl
    clear hm hl
    generalize tellR l = R at *
    go_enter Tryd.func10, Tryd.ntmps10
    go_wp2_with fail
    refine Hc.out.mono ?_
    rintro e w1 ⟨rfl, rfl⟩
    go_wp2
    go_ret2
    exact ⟨by unfold tellV; rw [He.out]; rfl, Below.refl _ _⟩
end Go.Proofs.YtkpbnbnfgadkcaaDoor
