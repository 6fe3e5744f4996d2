/-
  Paths held against one another; the place of a directory.
-/
import Derived.Test.YtanipbpphbkmcaaDoorSame
import Derived.Test.YtanipbpphbkmcaaDoorShelf
set_option autoImplicit false
set_option relaxedAutoImplicit false
set_option linter.unusedVariables false
set_option linter.unusedSimpArgs false
namespace Go.Proofs.YtanipbpphbkmcaaDoor
open Go.Rows Go.RowKit Go.Shelf Go.Sort

/-- the first that is asked for -/
def firstGo (q : Dir → Bool) : List Dir → Nat → Int
  | [], _ => -1
  | d :: l, k => bif q d then (k : Int) else firstGo q l (k + 1)
def firstI (q : Dir → Bool) (t : List Dir) : Int := firstGo q t 0
theorem firstGo_at (q : Dir → Bool) {t : List Dir} {k : Nat} (h : k < t.length) : firstGo q (t.drop k) k = bif q t[k] then (k : Int) else firstGo q (t.drop (k + 1)) (k + 1) := by
  rw [List.drop_eq_getElem_cons h, firstGo]
theorem firstGo_le (q : Dir → Bool) : ∀ (t : List Dir) (k : Nat), (firstGo q t k = -1 ∧ t.any q = false) ∨ ∃ j : Nat, firstGo q t k = (j : Int) ∧ k ≤ j ∧ j < k + t.length ∧ t.any q = true := by
  intro t
  induction t with
  | nil => intro k; exact .inl ⟨rfl, rfl⟩
  | cons d l ih =>
    intro k
    rw [firstGo, List.any_cons]
    cases q d
    · rcases ih (k + 1) with h | ⟨j, h, hj, hl, ha⟩
      · exact .inl h
      · exact .inr ⟨j, h, by omega, by rw [List.length_cons]; omega, by rw [ha]; rfl⟩
    · exact .inr ⟨k, rfl, Nat.le_refl _, by rw [List.length_cons]; omega, rfl⟩
theorem firstI_lt (q : Dir → Bool) (t : List Dir) : (firstI q t = -1 ∧ t.any q = false) ∨ ∃ j : Nat, firstI q t = (j : Int) ∧ j < t.length ∧ t.any q = true := by
  rcases firstGo_le q t 0 with h | ⟨j, h, _, hj, ha⟩
  · exact .inl h
  · exact .inr ⟨j, h, by omega, ha⟩
/-- the place of a directory -/
noncomputable def findI (t : List Dir) (p : List ByteArray) : Int := firstI (fun d => eqB d.path p) t

theorem strsEq_any (A B : Option Addr) (n m c d : Nat) (xs ys : List ByteArray) (w : World) (S T : Nat → Prop) (hx : SlV rStr w S xs (.slice A n c)) (hy : SlV rStr w T ys (.slice B m d)) :
    Calls Tryd.prog 37 #[.slice A n c, .slice B m d] w fun e w' => e = .returned (.bool (eqB xs ys)) ∧ Below w.heap.size w w' := by
  have hnx := hx.n_eq
  have hny := hy.n_eq
  have hcx := hx.cap_le
  have hcy := hy.cap_le
  unfold maxLen at hcx hcy
  by_cases hnm : n = m
  · by_cases h0 : n = 0
    · subst h0; subst hnm
      have e1 : xs = [] := List.eq_nil_of_length_eq_zero hnx.symm
      have e2 : ys = [] := List.eq_nil_of_length_eq_zero hny.symm
      refine (Tryd.slices_Equal_string_empty A B c 0 d w (by omega)).mono ?_
      rintro e w' ⟨rfl, rfl⟩
      exact ⟨by rw [eqB_true (e1.trans e2.symm)]; rfl, Below.refl _ _⟩
    · have hx0 : 0 < xs.length := by omega
      have hy0 : 0 < ys.length := by omega
      obtain ⟨b, o, cs, rfl, _, _, _, _⟩ := hx.elem (List.getElem?_eq_getElem hx0)
      obtain ⟨b', o', cs', rfl, _, _, _, _⟩ := hy.elem (List.getElem?_eq_getElem hy0)
      refine (Tryd.slices_Equal_string b o n c b' o' m d xs ys w (by omega) (by omega) (by omega) (by omega) (fun j hj => ?_) (fun j hj => ?_)).mono ?_
      · obtain ⟨b2, o2, cs2, e, _, _, ⟨rfl, _⟩, hcell⟩ := hx.elem (List.getElem?_eq_getElem hj)
        have := hcell 0 _ rfl
        simp only [Option.some.injEq, Addr.mk.injEq] at e
        obtain ⟨rfl, rfl, _⟩ := e
        simp only [rStr, Nat.add_zero, Nat.mul_one] at this
        rw [this, List.getD_eq_getElem?_getD, List.getElem?_eq_getElem hj]; rfl
      · obtain ⟨b2, o2, cs2, e, _, _, ⟨rfl, _⟩, hcell⟩ := hy.elem (List.getElem?_eq_getElem hj)
        have := hcell 0 _ rfl
        simp only [Option.some.injEq, Addr.mk.injEq] at e
        obtain ⟨rfl, rfl, _⟩ := e
        simp only [rStr, Nat.add_zero, Nat.mul_one] at this
        rw [this, List.getD_eq_getElem?_getD, List.getElem?_eq_getElem hj]; rfl
      · rintro e w' ⟨rfl, q, rfl⟩
        refine ⟨?_, ⟨rfl, rfl, rfl, Nat.le_refl _, fun _ _ => rfl⟩⟩
        rw [hnx, hny, List.take_length, List.take_length]
        by_cases e : xs = ys
        · rw [eqB_true e, decide_eq_true e]
        · rw [eqB_false e, decide_eq_false e]
  · refine (Tryd.slices_Equal_string_lens A B n c m d w hnm).mono ?_
    rintro e w' ⟨rfl, rfl⟩
    exact ⟨by rw [eqB_false (by rintro rfl; omega)], Below.refl _ _⟩

set_option maxHeartbeats 1600000 in
set_option maxRecDepth 100000 in
theorem refPath_any (A B : Option Addr) (n m c d : Nat) (xs ys : List ByteArray) (w : World) (S T : Nat → Prop) (hx : SlV rStr w S xs (.slice A n c)) (hy : SlV rStr w T ys (.slice B m d)) :
    Calls Tryd.prog 17 #[.slice A n c, .slice B m d] w fun e w' => e = .returned (.bool (eqB xs ys)) ∧ Below w.heap.size w w' := by
  have hnx := hx.n_eq
  have hny := hy.n_eq
  have hcx := hx.cap_le
  have hcy := hy.cap_le
  unfold maxLen at hcx hcy
  by_cases hnm : n = m
  · have hb : ((n : Int) != (m : Int)) = false := by simp [hnm]
    have hn63 : n ≤ 9223372036854775807 := by omega
    have hx' := hx.more (S' := fun b => b < w.heap.size) fun b _ h => h
    have hy' := hy.more (S' := fun b => b < w.heap.size) fun b _ h => h
    have Hpos : Hid (xs = ys → eqB xs ys = true) := fun h => eqB_true h
    have Hneg : Hid (xs ≠ ys → eqB xs ys = false) := fun h => eqB_false h
    have Hnm := Lib.hid hnm; clear hnm
    have Hnx := Lib.hid hnx; clear hnx
    have Hny := Lib.hid hny; clear hny
    clear hcx hcy hx hy
    generalize eqB xs ys = r at *
    go_enter Tryd.func17, Tryd.ntmps17
    go_wp2_with fail
    go_loopw [5] (fun i wr => ∃ k : Nat, k ≤ n ∧ i = .int .i64 k ∧ Hid (xs.take k = ys.take k) ∧ Below w.heap.size w wr) (fun i _ => n - (intOf i).toNat)
    case atStart => exact ⟨0, Nat.zero_le _, rfl, by simp [Hid], Below.refl _ _⟩
    case round =>
      obtain ⟨k, hk, rfl, heq, hbel⟩ := hrel
      by_cases hlt : k < n
      · have hkx : k < xs.length := by have := Hnx.out; omega
        have hky : k < ys.length := by have := Hny.out; have := Hnm.out; omega
        have hkm : k < m := by have := Hnm.out; omega
        have hxw := hx'.below hbel (fun b h => h)
        have hyw := hy'.below hbel (fun b h => h)
        obtain ⟨b, o, cs, rfl, _, hb1, ⟨rfl, _⟩, hcell⟩ := hxw.elem (List.getElem?_eq_getElem hkx)
        obtain ⟨b', o', cs', rfl, _, hb2, ⟨rfl, _⟩, hcell'⟩ := hyw.elem (List.getElem?_eq_getElem hky)
        have c0 := hcell 0 _ rfl
        have d0 := hcell' 0 _ rfl
        simp only [rStr, Nat.add_zero, Nat.mul_one] at c0 d0
        clear hcell hcell' hxw hyw
        have Hne := Lib.hid (fun h => ne_at hkx hky h)
        have Hen := Lib.hid (fun h => take_next heq.out hkx hky h)
        have Hq2 : Hid (xs[k] ≠ ys[k] → r = false) := fun h => Hneg.out (Hne.out h)
        clear Hne
        have hk0 : (0 : Int) ≤ (k : Int) := by omega
        have hkn : (k : Int) < (n : Int) := by omega
        have hkm' : (k : Int) < (m : Int) := by omega
        generalize xs[k] = n1 at *
        generalize ys[k] = n2 at *
        have r_c0 := cell_regrown c0
        have r_d0 := cell_regrown d0
        by_cases hn : n1 = n2
        · have hbn := beq_true hn
          have He := Lib.hid (Hen.out hn)
          clear Hen Hq2 hn
          go_wp2_with fail
          refine wp_region_qb (by kernel_rfl) (by kernel_rfl) ?_
          repeat (go_big_quiet_step (first | fail))
          refine wpQuiet_nil ?_
          intro w1 B1
          go_wp2_with fail
          go_roundw
          case rel => exact ⟨k + 1, by omega, by go_num, He, bot hbel B1⟩
          case measure => simp [intOf]; omega
        · have hbn := beq_false hn
          have He := Lib.hid (Hq2.out hn)
          clear Hen Hq2 hn
          go_wp2_with fail
          refine wp_region_qb (by kernel_rfl) (by kernel_rfl) ?_
          repeat (go_big_quiet_step (first | fail))
          refine wpQuiet_nil ?_
          intro w1 B1
          go_wp2_with fail
          go_ret
          exact ⟨ret_bool He.out.symm, bot hbel B1⟩
      · have He : Hid (r = true) := Hpos.out (eq_of_takes heq.out (by have := Hnx.out; omega) (by have := Hny.out; have := Hnm.out; omega))
        go_wp2_with fail
        go_ret
        exact ⟨ret_bool He.out.symm, hbel⟩
  · have hb : ((n : Int) != (m : Int)) = true := by simp; omega
    have He : Hid (eqB xs ys = false) := eqB_false (by rintro rfl; omega)
    clear hnx hny hcx hcy hx hy hnm
    generalize eqB xs ys = r at *
    go_enter Tryd.func17, Tryd.ntmps17
    go_wp2_with fail
    go_ret
    exact ⟨ret_bool He.out.symm, Below.refl _ _⟩
end Go.Proofs.YtanipbpphbkmcaaDoor
