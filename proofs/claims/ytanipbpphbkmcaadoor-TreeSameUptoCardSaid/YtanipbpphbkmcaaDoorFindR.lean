/-
  The document's Find and Parent.
-/
import Derived.Test.YtanipbpphbkmcaaDoorFind
import Derived.Test.YtanipbpphbkmcaaDoorQuietB
set_option autoImplicit false
set_option relaxedAutoImplicit false
set_option linter.unusedVariables false
set_option linter.unusedSimpArgs false
namespace Go.Proofs.YtanipbpphbkmcaaDoor
open Go.Rows Go.RowKit Go.Shelf Go.Sort

theorem SlV.take {α : Type} {r : Rp α} {w : World} {S : Nat → Prop} {l : List α} {A : Option Addr} {n c k : Nat} (h : SlV r w S l (.slice A n c)) (hk : k ≤ l.length) : SlV r w S (l.take k) (.slice A k c) := by
  obtain ⟨A', c', h1, h2, h3, h4, h5⟩ := h
  simp only [List.cons.injEq, Value.slice.injEq, and_true] at h1
  obtain ⟨rfl, _, rfl⟩ := h1
  have hl : (l.take k).length = k := by rw [List.length_take]; omega
  refine ⟨A, c, by rw [hl], by omega, h3, h4, fun hn => ?_⟩
  obtain ⟨b, o, hA, hS, hb, hr⟩ := h5 (by omega)
  refine ⟨b, o, hA, hS, hb, fun i x hx => hr i x ?_⟩
  rw [List.getElem?_take] at hx
  split at hx
  · exact hx
  · cases hx

set_option maxHeartbeats 1600000 in
set_option maxRecDepth 100000 in
theorem refFind_any (A B : Option Addr) (n c m d : Nat) (xs : List Dir) (ys : List ByteArray) (w : World) (S T : Nat → Prop) (hx : SlV rDir w S xs (.slice A n c)) (hy : SlV rStr w T ys (.slice B m d)) :
    Calls Tryd.prog 27 #[.agg #[.slice A n c], .slice B m d] w fun e w' => e = .returned (.int .i64 (findI xs ys)) ∧ Below w.heap.size w w' := by
  have hnx := hx.n_eq
  have hcx := hx.cap_le
  unfold maxLen at hcx
  have hn63 : n ≤ 9223372036854775807 := by omega
  have hx' := hx.more (S' := fun b => b < w.heap.size) fun b _ h => h
  have hy' := hy.more (S' := fun b => b < w.heap.size) fun b _ h => h
  have Hend : Hid (findI xs ys = firstGo (fun d => eqB d.path ys) (xs.drop 0) 0) := rfl
  have Hnx := Lib.hid hnx; clear hnx
  clear hcx hx hy
  generalize findI xs ys = r at *
  go_enter Tryd.func27, Tryd.ntmps27
  go_wp2_with fail
  obtain ⟨w0, hw0⟩ : ∃ w0, w0 = w.alloc (.cells #[.slice A n c] 24) := ⟨_, rfl⟩
  have hz : w.heap.size < w0.heap.size := by rw [hw0]; simp [go_sem]
  have hb0 : Below w.heap.size w w0 := by rw [hw0]; exact bal (Below.refl _ _) _
  have a0 : w0.cell? ⟨w.heap.size, 0, none⟩ = some (.slice A n c) := by rw [hw0]; simp [go_sem]
  rw [← hw0]
  clear hw0
  have HB0 := Lib.hid hb0; clear hb0
  go_loopw [5] (fun i wr => ∃ k : Nat, k ≤ n ∧ i = .int .i64 k ∧ Hid (r = firstGo (fun d => eqB d.path ys) (xs.drop k) k) ∧ Below w0.heap.size w0 wr) (fun i _ => n - (intOf i).toNat)
  case atStart => exact ⟨0, Nat.zero_le _, rfl, Hend, Below.refl _ _⟩
  case round =>
    obtain ⟨k, hk, rfl, heq, hbel⟩ := hrel
    have b0 := below_cell hbel a0 hz
    have hbel' := bot HB0.out hbel
    by_cases hlt : k < n
    · have hkx : k < xs.length := by have := Hnx.out; omega
      have hxw := hx'.below hbel' (fun b h => h)
      obtain ⟨b, o, cs, rfl, _, hb1, hh, hcell⟩ := hxw.elem (List.getElem?_eq_getElem hkx)
      have Hat := Lib.hid (firstGo_at (fun d => eqB d.path ys) hkx)
      obtain ⟨s0, s1, s2, s3, rfl, hp0, _, _, _, _, hp1, hp2, hp3, _⟩ := hh
      obtain ⟨pA, pc, rfl, _, _⟩ := hp0.val
      have c0 := hcell 0 _ rfl
      simp only [rDir, Nat.add_zero] at c0
      have Hcall := Lib.hid (refPath_any _ _ _ _ _ _ xs[k].path ys wr _ _ hp0 (hy'.below hbel' (fun b h => h)))
      clear hcell hxw hp0 hp1 hp2 hp3
      have hk0 : (0 : Int) ≤ (k : Int) := by omega
      have hkn : (k : Int) < (n : Int) := by omega
      generalize eqB xs[k].path ys = v at *
      generalize xs[k].path.length = l0 at *
      cases v
      · have He : Hid (r = firstGo (fun d => eqB d.path ys) (xs.drop (k + 1)) (k + 1)) := by unfold Hid; rw [heq.out, Hat.out]; rfl
        clear Hat heq
        go_wp2_with fail
        refine (Hcall.out).mono ?_
        rintro e w1 ⟨rfl, B1⟩
        go_wp2_with fail
        go_roundw
        case rel => exact ⟨k + 1, by omega, by go_num, He, bot hbel B1⟩
        case measure => simp [intOf]; omega
      · have He : Hid (r = (k : Int)) := by unfold Hid; rw [heq.out, Hat.out]; rfl
        clear Hat heq
        go_wp2_with fail
        refine (Hcall.out).mono ?_
        rintro e w1 ⟨rfl, B1⟩
        go_wp2_with fail
        go_ret
        exact ⟨ret_int He.out.symm, bot hbel' B1⟩
    · have He : Hid (r = -1) := by unfold Hid; rw [heq.out, List.drop_eq_nil_of_le (by have := Hnx.out; omega)]; rfl
      go_wp2_with fail
      go_ret
      exact ⟨ret_int He.out.symm, hbel'⟩

/-- the place above a directory that is there and is not the root -/
noncomputable def aboveI (t : List Dir) (p : List ByteArray) : Int := findI t (p.take (p.length - 1))

end Go.Proofs.YtanipbpphbkmcaaDoor
