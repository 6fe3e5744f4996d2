/-
  The document's Number and Print of a version, walked.
-/
import Derived.Test.YtanipbpphbkmcaaGreatDoorVers
set_option autoImplicit false
set_option relaxedAutoImplicit false
set_option linter.unusedVariables false
set_option linter.unusedSimpArgs false
namespace Go.Proofs.YtanipbpphbkmcaaGreatDoor
open Go.Rows Go.RowKit Go.Shelf Go.Sort

theorem conv2_digit (W : World) (b d : Nat) (hd : d < 10) (h : W.cell? ⟨b, 0, none⟩ = some (.int .u8 (48 + (d : Int)))) :
    (convert 105 9 (.slice (some ⟨b, 0, none⟩) 1 1)).run Tryz.prog W = .ok (.string ⟨#[48 + UInt8.ofNat d]⟩) W := by
  rw [← of48]
  refine run_convert_bytes_back W 105 9 5 ⟨b, 0, none⟩ 1 [UInt8.ofNat (48 + d)] Tryz.underlying105 Tryz.underlying5 Tryz.underlying9 ?_
  intro j hj
  have hj0 : j = 0 := by simp at hj; exact hj
  subst hj0
  show W.cell? ⟨b, 0, none⟩ = _
  rw [h]
  have : (UInt8.ofNat (48 + d)).toNat = 48 + d := by simp; omega
  simp only [List.getElem_cons_zero, this]
  rfl
theorem conv2_after (w W : World) (d : Nat) (hd : d < 10) (h : Below (w.alloc (.cells #[.int .u8 (48 + (d : Int))] 5)).drew.heap.size (w.alloc (.cells #[.int .u8 (48 + (d : Int))] 5)).drew W) :
    (convert 105 9 (.slice (some ⟨w.heap.size, 0, none⟩) 1 1)).run Tryz.prog W = .ok (.string ⟨#[48 + UInt8.ofNat d]⟩) W :=
  conv2_digit W _ d hd (below_cell h (by simp) (by simp))
theorem conv2_here (w : World) (d : Nat) (hd : d < 10) :
    (convert 105 9 (.slice (some ⟨w.heap.size, 0, none⟩) 1 1)).run Tryz.prog (w.alloc (.cells #[.int .u8 (48 + (d : Int))] 5)) = .ok (.string ⟨#[48 + UInt8.ofNat d]⟩) (w.alloc (.cells #[.int .u8 (48 + (d : Int))] 5)) :=
  conv2_digit _ _ d hd (by simp)
theorem conv2_here_drew (w : World) (d : Nat) (hd : d < 10) :
    (convert 105 9 (.slice (some ⟨w.heap.size, 0, none⟩) 1 1)).run Tryz.prog (w.alloc (.cells #[.int .u8 (48 + (d : Int))] 5)).drew = .ok (.string ⟨#[48 + UInt8.ofNat d]⟩) (w.alloc (.cells #[.int .u8 (48 + (d : Int))] 5)).drew :=
  conv2_digit _ _ d hd (by simp)

def Number2Ok (u : Nat) : Prop := ∀ w : World, Calls Tryz.prog 143 #[.int .i64 u] w fun e w' => e = .returned (.string (decB u)) ∧ Below w.heap.size w w'

set_option maxHeartbeats 800000 in
set_option maxRecDepth 100000 in
theorem number2_small (u : Nat) (h : u < 10) : Number2Ok u := by
  intro w
  have hlt : (u : Int) < 10 := by omega
  have hu0 : (0 : Int) ≤ u := by omega
  have hE := Lib.hid (decB_small h)
  have h1 : IntKind.u8.wrap (48 + (u : Int)) = 48 + (u : Int) := IntWalk.u8_in _ ⟨by omega, by omega⟩
  go_enter Tryz.func143, Tryz.ntmps143
  go_wp2_with fail
  rw [conv2_digit _ _ u h (by simp)]
  simp only [Result.andThen]
  rw [Oper.upon_value]
  go_wp2_with fail
  go_ret
  exact ⟨ret_str hE.out.symm, (Below.refl _ _).alloc (Nat.le_refl _) _⟩

set_option maxHeartbeats 800000 in
set_option maxRecDepth 100000 in
theorem number2_step (u : Nat) (h : ¬ u < 10) (hu : u ≤ 9223372036854775807) (ih : Number2Ok (u / 10)) : Number2Ok u := by
  intro w
  have hlt : (10 : Int) ≤ u := by omega
  have hu0 : (0 : Int) ≤ u := by omega
  have hu1 : (u : Int) ≤ 9223372036854775807 := by omega
  have hE := Lib.hid (decB_step h)
  have Hih := Lib.hid ih
  have hz : (decB (u / 10)).size + (⟨#[48 + UInt8.ofNat (u % 10)]⟩ : ByteArray).size ≤ 9223372036854775807 := by
    have := decB_size (u / 10)
    have h1 : (⟨#[48 + UInt8.ofNat (u % 10)]⟩ : ByteArray).size = 1 := rfl
    rw [h1]; omega
  have HZ := Lib.hid hz; clear hz
  clear ih
  have hqw : IntKind.i64.wrap ((u / 10 : Nat) : Int) = ((u / 10 : Nat) : Int) := IntWalk.i64_in _ ⟨by omega, by omega⟩
  have hq' : (u : Int) / 10 = ((u / 10 : Nat) : Int) := by omega
  have hr : (u : Int).tmod 10 = ((u % 10 : Nat) : Int) := by rw [Int.tmod_eq_emod_of_nonneg hu0]; omega
  have hr' : (u : Int) % 10 = ((u % 10 : Nat) : Int) := by omega
  have hm : u % 10 < 10 := by omega
  have h1 : IntKind.i64.wrap (48 + ((u % 10 : Nat) : Int)) = 48 + ((u % 10 : Nat) : Int) := IntWalk.i64_in _ ⟨by omega, by omega⟩
  have h2 : IntKind.u8.wrap (48 + ((u % 10 : Nat) : Int)) = 48 + ((u % 10 : Nat) : Int) := IntWalk.u8_in _ ⟨by omega, by omega⟩
  generalize hqq : u / 10 = q at *
  generalize hrr : u % 10 = r at *
  clear h hu hqq hrr
  go_enter Tryz.func143, Tryz.ntmps143
  go_wp2_with fail
  have hc1 := fun W : World => conv2_here W r hm
  have hc2 := fun W : World => conv2_here_drew W r hm
  have hadd : ∀ W : World, (Op.stringOp .add (decB q) ⟨#[48 + UInt8.ofNat r]⟩).run Tryz.prog W = .ok (.string (decB u)) W := fun W => by rw [hE.out]; exact run_string_add_sum W _ _ HZ.out
  go_region_with (go_at_call 143; refine (Hih.out _).mono ?_; rintro e w1 ⟨rfl, hb1⟩; try have hcv := conv2_after _ _ _ hm hb1)
  all_goals go_wp2_with fail
  all_goals go_ret
  all_goals first
    | exact ⟨rfl, ((Below.refl _ w).drew.trans hb1).alloc hb1.size _⟩
    | exact ⟨rfl, ((Below.refl _ w).alloc (Nat.le_refl _) _).drew.trans (hb1.mono (by simp))⟩

theorem number2_any : ∀ (u : Nat), u ≤ 9223372036854775807 → Number2Ok u := by
  intro u
  induction u using Nat.strongRecOn with
  | _ u ih =>
    intro hu
    by_cases h : u < 10
    · exact number2_small u h
    · exact number2_step u h hu (ih (u / 10) (by omega) (by omega))

theorem refNumber_any (n : Int) (h0 : 0 ≤ n) (h1 : n ≤ 9223372036854775807) (w : World) :
    Calls Tryz.prog 143 #[.int .i64 n] w fun e w' => e = .returned (.string (itoaB n)) ∧ Below w.heap.size w w' := by
  have h := number2_any n.toNat (by omega) w
  rw [show ((n.toNat : Nat) : Int) = n from by omega, ← itoaB_pos (by omega)] at h
  exact h

set_option maxHeartbeats 800000 in
set_option maxRecDepth 100000 in
theorem refVerPrint_any (a b c : Int) (w : World) :
    Calls Tryz.prog 124 #[.agg #[.int .i64 a, .int .i64 b, .int .i64 c]] w fun e w' => e = .returned (.string (verText a b c)) ∧ Below w.heap.size w w' := by
  have Hm : Hid (∀ W, Calls Tryz.prog 90 #[.agg #[.int .i64 a, .int .i64 b, .int .i64 c]] W fun e w' => e = .returned (.bool (verB a b c)) ∧ Below W.heap.size W w') := fun W => refVerMay_any a b c W
  cases hv : verB a b c
  · have Hr : Hid (verText a b c = ⟨#[]⟩) := by unfold Hid verText; rw [hv]; rfl
    rw [hv] at Hm
    clear hv
    generalize verText a b c = r at *
    go_enter Tryz.func124, Tryz.ntmps124
    go_wp2_with fail
    refine (Hm.out _).mono ?_
    rintro e w1 ⟨rfl, hb1⟩
    go_wp2_with fail
    go_ret
    exact ⟨ret_str Hr.out.symm, bnew hb1⟩
  · have Hr : Hid (verText a b c = itoaB a ++ dotB ++ itoaB b ++ dotB ++ itoaB c) := by unfold Hid verText; rw [hv]; rfl
    rw [hv] at Hm
    obtain ⟨s1, s2, s3⟩ := verText_size hv
    obtain ⟨⟨h1, h2⟩, ⟨h3, h4⟩, h5, h6⟩ := verB_iff.1 hv
    have z : dotB.size = 1 := rfl
    clear hv
    generalize verText a b c = r at *
    have A1 : ∀ W : World, (Op.stringOp .add (itoaB a) ⟨#[46]⟩).run Tryz.prog W = .ok (.string (itoaB a ++ dotB)) W := fun W => run_string_add_sum W _ dotB (by omega)
    have A2 : ∀ W : World, (Op.stringOp .add (itoaB a ++ dotB) (itoaB b)).run Tryz.prog W = .ok (.string (itoaB a ++ dotB ++ itoaB b)) W := fun W => run_string_add_sum W _ _ (by simp only [ByteArray.size_append]; omega)
    have A3 : ∀ W : World, (Op.stringOp .add (itoaB a ++ dotB ++ itoaB b) ⟨#[46]⟩).run Tryz.prog W = .ok (.string (itoaB a ++ dotB ++ itoaB b ++ dotB)) W := fun W => run_string_add_sum W _ dotB (by simp only [ByteArray.size_append]; omega)
    have A4 : ∀ W : World, (Op.stringOp .add (itoaB a ++ dotB ++ itoaB b ++ dotB) (itoaB c)).run Tryz.prog W = .ok (.string r) W := fun W => by rw [Hr.out]; exact run_string_add_sum W _ _ (by simp only [ByteArray.size_append]; omega)
    clear z
    go_enter Tryz.func124, Tryz.ntmps124
    go_wp2_with fail
    refine (Hm.out _).mono ?_
    rintro e w1 ⟨rfl, hb1⟩
    have e0 := hb1.cell (p := ⟨w.heap.size, 0, none⟩) (by simp)
    have e1 := hb1.cell (p := ⟨w.heap.size, 1, none⟩) (by simp)
    have e2 := hb1.cell (p := ⟨w.heap.size, 2, none⟩) (by simp)
    simp [go_sem] at e0 e1 e2
    have B := bnew hb1
    have Hc0 := Lib.hid (qcall (w := w1) (fun W hW => refNumber_any a (by omega) (by omega) W))
    have Hc1 := Lib.hid (qcall (w := w1) (fun W hW => refNumber_any b (by omega) (by omega) W))
    have Hc2 := Lib.hid (qcall (w := w1) (fun W hW => refNumber_any c (by omega) (by omega) W))
    clear hb1
    have r_e0 := cell_regrown e0
    have r_e1 := cell_regrown e1
    have r_e2 := cell_regrown e2
    go_wp2_with fail
    refine wp_region_qb (by kernel_rfl) (by kernel_rfl) ?_
    repeat (go_big_quiet_step (first | (with_reducible exact Hc0.out _ _) | (with_reducible exact Hc1.out _ _) | (with_reducible exact Hc2.out _ _)))
    refine wpQuiet_nil ?_
    intro w2 B2
    go_wp2_with fail
    go_ret
    exact ⟨rfl, bot B B2⟩
end Go.Proofs.YtanipbpphbkmcaaGreatDoor
