/-
  walkup.Look.
-/
import Derived.Test.YtkpbpnecmfadlaaGreatDoorJoin
import Derived.Test.YtkpbpnecmfadlaaGreatDoorScanName
import Derived.Deep.RegionHeld3
set_option autoImplicit false
set_option relaxedAutoImplicit false
set_option linter.unusedVariables false
set_option linter.unusedSimpArgs false
namespace Go.Proofs.YtkpbpnecmfadlaaGreatDoor
open Go.Rows Go.RowKit Go.Shelf Go.Sort

/-- a lookup from a path of whose names the first q are left -/
noncomputable def lookDown (t : List Dir) (p : List ByteArray) (s : ByteArray) : Nat → Int
  | 0 => -1
  | q + 1 => bif decide (0 ≤ findI t (p.take q ++ [s])) then findI t (p.take q ++ [s]) else lookDown t p s q
noncomputable def lookI (t : List Dir) (i : Int) (s : ByteArray) : Int :=
  if h : 0 ≤ i ∧ i.toNat < t.length then (bif nameB s then lookDown t (t[i.toNat]'h.2).path s ((t[i.toNat]'h.2).path.length + 1) else -1) else -1

theorem keepL {w0 W W' : World} {a : Nat} {v : Value} (hb : Below W.heap.size W W') (hc : W.cell? ⟨a, 0, none⟩ = some v) (hB : Below w0.heap.size w0 W) (hz : a < w0.heap.size) : W'.cell? ⟨a, 0, none⟩ = some v ∧ Below w0.heap.size w0 W' :=
  ⟨below_cell hb hc (Nat.lt_of_lt_of_le hz hB.size), bot hB hb⟩

set_option maxHeartbeats 3200000 in
set_option maxRecDepth 100000 in
theorem look_any (A : Option Addr) (n c : Nat) (xs : List Dir) (s : ByteArray) (w : World) (S : Nat → Prop) (i : Int) (hs : s.size ≤ maxLen) (hlen : ∀ d ∈ xs, d.path.length * 32 ≤ 140737488355328) (hx : SlV rDir w S xs (.slice A n c)) :
    Calls Tryz.prog 24 #[.agg #[.slice A n c], .int .i64 i, .string s] w fun e w' => e = .returned (.int .i64 (lookI xs i s)) ∧ Below w.heap.size w w' := by
  have hnx := hx.n_eq
  have hcx := hx.cap_le
  unfold maxLen at hcx
  by_cases h0 : i < 0
  · have hd : decide (i < 0) = true := decide_eq_true h0
    have He : Hid (lookI xs i s = -1) := by unfold Hid lookI; rw [dif_neg (by omega)]
    clear hx hnx hcx hlen
    generalize lookI xs i s = R at *
    go_enter Tryz.func24, Tryz.ntmps24
    go_wp2_with fail
    go_ret
    exact ⟨ret_int He.out.symm, bal (Below.refl _ _) _⟩
  have hd : decide (i < 0) = false := decide_eq_false h0
  by_cases h1 : (n : Int) ≤ i
  · have hd1 : decide ((n : Int) ≤ i) = true := decide_eq_true h1
    have He : Hid (lookI xs i s = -1) := by unfold Hid lookI; rw [dif_neg (by omega)]
    clear hx hnx hcx hlen
    generalize lookI xs i s = R at *
    go_enter Tryz.func24, Tryz.ntmps24
    go_wp2_with fail
    go_ret
    exact ⟨ret_int He.out.symm, bal (Below.refl _ _) _⟩
  have hd1 : decide ((n : Int) ≤ i) = false := decide_eq_false h1
  obtain ⟨k, rfl⟩ : ∃ k : Nat, i = (k : Int) := ⟨i.toNat, by omega⟩
  have hk : k < xs.length := by omega
  have Hnm := Lib.hid (fun W => scanName_any s hs W)
  have HR : Hid (lookI xs (k : Int) s = bif nameB s then lookDown xs xs[k].path s (xs[k].path.length + 1) else -1) := by
    unfold Hid lookI; rw [dif_pos (by omega)]; simp only [Int.toNat_natCast]
  generalize lookI xs (k : Int) s = R at *
  have hkn : (k : Int) < (n : Int) := by omega
  have hk0 : (0 : Int) ≤ (k : Int) := by omega
  cases hnb : nameB s
  · have He : Hid (R = -1) := by unfold Hid; rw [HR.out, hnb]; rfl
    rw [hnb] at Hnm
    clear hx hnx hcx hlen hnb HR
    go_enter Tryz.func24, Tryz.ntmps24
    go_wp2_with fail
    refine (Hnm.out _).mono ?_
    rintro e w1 ⟨rfl, B1⟩
    go_wp2_with fail
    go_ret
    exact ⟨ret_int He.out.symm, bnew B1⟩
  rw [hnb] at Hnm
  have HR1 : Hid (R = lookDown xs xs[k].path s (xs[k].path.length + 1)) := by unfold Hid; rw [HR.out, hnb]; rfl
  clear HR hnb
  have hlk := hlen xs[k] (List.getElem_mem hk)
  have HX := Lib.hid hx
  have HS := Lib.hid hs
  obtain ⟨b, o, cs, rfl, _, hb1, hh, hcell⟩ := hx.elem (List.getElem?_eq_getElem hk)
  obtain ⟨s0, s1, s2, s3, rfl, hp, _, _, _, _, _, _, _, _⟩ := hh
  obtain ⟨pA, pc, rfl, hpl, hpm⟩ := hp.val
  unfold maxLen at hpm
  have c0 := hcell 0 _ rfl
  simp only [rDir, Nat.add_zero] at c0
  have HP := Lib.hid hp
  clear hcell hp hx hs hlen hcx hnx
  generalize xs[k].path = path at *
  generalize hl0 : path.length = l0 at *
  have Hl0 := Lib.hid hl0; clear hl0
  go_enter Tryz.func24, Tryz.ntmps24
  go_wp2_with fail
  obtain ⟨w0, hw0⟩ : ∃ w0, w0 = w.alloc (.cells #[.slice (some ⟨b, o, none⟩) n c] 66) := ⟨_, rfl⟩
  have hz : w.heap.size < w0.heap.size := by rw [hw0]; simp [go_sem]
  have hb0 : Below w.heap.size w w0 := by rw [hw0]; exact bal (Below.refl _ _) _
  have a0 : w0.cell? ⟨w.heap.size, 0, none⟩ = some (.slice (some ⟨b, o, none⟩) n c) := by rw [hw0]; simp [go_sem]
  rw [← hw0]
  have HB0 := Lib.hid hb0; clear hb0 hw0
  refine (Hnm.out w0).mono ?_
  rintro e w1 ⟨rfl, B1⟩
  have Q1 := Lib.hid B1; clear B1 Hnm
  have e0 := below_cell (bot HB0.out Q1.out) c0 hb1
  have e1 := below_cell Q1.out a0 hz
  go_wp2_with fail
  clear e0 e1
  go_loopw [8] (fun i wr => ((i = .int .i64 (-1) ∧ Hid (R = -1)) ∨ ∃ q : Nat, q ≤ l0 ∧ i = .int .i64 q ∧ Hid (R = lookDown xs path s (q + 1))) ∧ Below w0.heap.size w0 wr) (fun i _ => (intOf i + 1).toNat)
  case atStart => exact ⟨.inr ⟨l0, Nat.le_refl _, rfl, HR1⟩, Q1.out⟩
  case round =>
    obtain ⟨hor, hbel⟩ := hrel
    have b0 := below_cell hbel a0 hz
    have hbel' := bot HB0.out hbel
    rcases hor with ⟨rfl, He⟩ | ⟨q, hq, rfl, HRq⟩
    · go_wp2_with fail
      go_ret
      exact ⟨ret_int He.out.symm, hbel'⟩
    · have hq0 : (0 : Int) ≤ (q : Int) := by omega
      have hqc : q ≤ pc := by omega
      have hw2 : IntKind.i64.wrap (q : Int) = (q : Int) := IntWalk.i64_in _ ⟨by omega, by omega⟩
      go_wp2_with fail
      have Hj : Hid (∀ W, Below w0.heap.size w0 W → Calls Tryz.prog 22 #[.slice pA q pc, .string s] W fun e w' => ∃ v, e = .returned v ∧ SlV rStr w' (fun _ => True) (path.take q ++ [s]) v ∧ Below W.heap.size W w') := fun W hW =>
        joined_any pA q pc (path.take q) s W _ HS.out (by rw [List.length_take]; omega) (SlV.take (HP.out.belowSize (bot HB0.out hW)) (by rw [Hl0.out]; exact hq))
      have Hf : Hid (∀ W vA m vc, Below w0.heap.size w0 W → SlV rStr W (fun _ => True) (path.take q ++ [s]) (.slice vA m vc) → Calls Tryz.prog 40 #[.agg #[.slice (some ⟨b, o, none⟩) n c], .slice vA m vc] W fun e w' => e = .returned (.int .i64 (findI xs (path.take q ++ [s]))) ∧ Below W.heap.size W w') := fun W vA m vc hW hv =>
        find_any _ _ _ _ _ _ xs _ W _ _ (HX.out.belowSize (bot HB0.out hW)) hv
      have Hst : Hid (lookDown xs path s (q + 1) = bif decide (0 ≤ findI xs (path.take q ++ [s])) then findI xs (path.take q ++ [s]) else lookDown xs path s q) := rfl
      generalize findI xs (path.take q ++ [s]) = f at *
      generalize path.take q ++ [s] = jp at *
      generalize lookDown xs path s (q + 1) = LD at *
      go_region_held3 (fun w' => w'.cell? ⟨w.heap.size, 0, none⟩ = some (.slice (some ⟨b, o, none⟩) n c) ∧ Below w0.heap.size w0 w')
        (first
          | exact ⟨b0, hbel.drew⟩
          | (go_split_ands; exact keepL (by assumption) (by assumption) (by assumption) hz))
        (first
          | (go_at_call 22; go_split_ands; with_reducible refine (Hj.out _ (by assumption)).mono ?_; rintro e w2 ⟨v, rfl, hv, hb2⟩; obtain ⟨vA, vc, rfl, _, _⟩ := hv.val)
          | (go_at_call 40; go_split_ands; with_reducible refine (Hf.out _ _ _ _ (by assumption) (by assumption)).mono ?_; rintro e w3 ⟨rfl, hb3⟩))
      all_goals
        have HBw : Hid (Below w0.heap.size w0 w3) := by (go_split_ands; assumption)
        have HRr : Hid (R = bif decide (0 ≤ f) then f else lookDown xs path s q) := HRq.out.trans Hst.out
        by_cases hf : 0 ≤ f
        · have He : Hid (R = f) := by unfold Hid; rw [HRr.out, decide_eq_true hf]; rfl
          go_wp2_with fail
          go_ret
          exact ⟨ret_int He.out.symm, bot HB0.out HBw.out⟩
        · have hfk : decide (0 ≤ f) = false := decide_eq_false hf
          have He : Hid (R = lookDown xs path s q) := by unfold Hid; rw [HRr.out, hfk]; rfl
          have hwm : IntKind.i64.wrap ((q : Int) - 1) = (q : Int) - 1 := IntWalk.i64_in _ ⟨by omega, by omega⟩
          clear hf HRr
          go_wp2_with fail
          go_roundw
          case rel =>
            refine ⟨?_, HBw.out⟩
            by_cases hq00 : q = 0
            · exact .inl ⟨by simp [hq00], by unfold Hid; rw [He.out, hq00]; rfl⟩
            · obtain ⟨q', rfl⟩ : ∃ q', q = q' + 1 := ⟨q - 1, by omega⟩
              exact .inr ⟨q', by omega, by congr 1; omega, He⟩
          case measure => simp [intOf]
end Go.Proofs.YtkpbpnecmfadlaaGreatDoor
/-
  The document's Look.
-/
set_option autoImplicit false
set_option relaxedAutoImplicit false
set_option linter.unusedVariables false
set_option linter.unusedSimpArgs false
namespace Go.Proofs.YtkpbpnecmfadlaaGreatDoor
open Go.Rows Go.RowKit Go.Shelf Go.Sort

end Go.Proofs.YtkpbpnecmfadlaaGreatDoor
