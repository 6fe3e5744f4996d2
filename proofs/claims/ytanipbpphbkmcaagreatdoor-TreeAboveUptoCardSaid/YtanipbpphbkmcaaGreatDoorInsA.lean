/-
  tree.Inside's two closures: the last name, and the order.
-/
import Derived.Test.YtanipbpphbkmcaaGreatDoorInsP
import Derived.Test.YtanipbpphbkmcaaGreatDoorSelfLaw
import Derived.Deep.RegionHeld3
set_option autoImplicit false
set_option relaxedAutoImplicit false
set_option linter.unusedVariables false
set_option linter.unusedSimpArgs false
namespace Go.Proofs.YtanipbpphbkmcaaGreatDoor
open Go.Rows Go.RowKit Go.Shelf Go.Sort

/-- a world that has been drawn from and grown -/
def Cls (w w' : World) : Prop := ∃ (q : Nat) (os : Array Obj), w' = grow (w.drewN q) os
theorem Cls.refl (w : World) : Cls w w := ⟨0, #[], by rw [grow_empty]; rfl⟩
theorem Cls.drew {w w' : World} (h : Cls w w') : Cls w w'.drew := by
  obtain ⟨q, os, rfl⟩ := h
  exact ⟨q + 1, os, by rw [drew_grow]; rfl⟩
theorem Cls.alloc {w w' : World} (h : Cls w w') (o : Obj) : Cls w (w'.alloc o) := by
  obtain ⟨q, os, rfl⟩ := h
  exact ⟨q, os ++ #[o], by rw [alloc_eq_grow, grow_grow]⟩
theorem Cls.below {w w' : World} (h : Cls w w') : Below w.heap.size w w' := by
  obtain ⟨q, os, rfl⟩ := h
  exact below_of_regrown (d := w.drawn + q) (Below.refl _ _) (Nat.le_refl _) os

set_option maxHeartbeats 800000 in
theorem cmpOr_any (b o c : Nat) (x y : Int) (w : World) (hx : w.cell? ⟨b, o, none⟩ = some (.int .i64 x)) (hy : w.cell? ⟨b, o + 1, none⟩ = some (.int .i64 y)) :
    Calls Tryz.prog 61 #[.slice (some ⟨b, o, none⟩) 2 c] w fun e w' => e = .returned (.int .i64 (orI x y)) ∧ w' = w := by
  by_cases h0 : x = 0
  · subst h0
    have He : Hid (orI 0 y = y) := by unfold Hid orI; rw [if_neg (by simp)]
    generalize orI 0 y = R at *
    by_cases h1 : y = 0
    · subst h1
      go_enter Tryz.func61, Tryz.ntmps61
      go_wp2_with fail
      go_loopw [8] (fun i wr => ∃ k : Nat, k ≤ 2 ∧ i = .int .i64 k ∧ wr = w) (fun i _ => 2 - (intOf i).toNat)
      case atStart => exact ⟨0, by omega, rfl, rfl⟩
      case round =>
        obtain ⟨k, hk, rfl, rfl⟩ := hrel
        rcases (by omega : k = 0 ∨ k = 1 ∨ k = 2) with rfl | rfl | rfl
        · go_wp2_with fail
          go_roundw
          case rel => exact ⟨1, by omega, rfl, trivial⟩
          case measure => simp [intOf]
        · go_wp2_with fail
          go_roundw
          case rel => exact ⟨2, by omega, rfl, trivial⟩
          case measure => simp [intOf]
        · go_wp2_with fail
          go_ret
          exact ⟨ret_int He.out.symm, rfl⟩
    · have hb : (y != 0) = true := by simpa using h1
      clear h1
      go_enter Tryz.func61, Tryz.ntmps61
      go_wp2_with fail
      go_loopw [8] (fun i wr => ∃ k : Nat, k ≤ 1 ∧ i = .int .i64 k ∧ wr = w) (fun i _ => 2 - (intOf i).toNat)
      case atStart => exact ⟨0, by omega, rfl, rfl⟩
      case round =>
        obtain ⟨k, hk, rfl, rfl⟩ := hrel
        rcases (by omega : k = 0 ∨ k = 1) with rfl | rfl
        · go_wp2_with fail
          go_roundw
          case rel => exact ⟨1, by omega, rfl, trivial⟩
          case measure => simp [intOf]
        · go_wp2_with fail
          go_ret
          exact ⟨ret_int He.out.symm, rfl⟩
  · have hb : (x != 0) = true := by simpa using h0
    have He : Hid (orI x y = x) := by unfold Hid orI; rw [if_pos h0]
    generalize orI x y = R at *
    clear h0
    go_enter Tryz.func61, Tryz.ntmps61
    go_wp2_with fail
    go_loopw [8] (fun i wr => i = .int .i64 0 ∧ wr = w) (fun i _ => 2 - (intOf i).toNat)
    case atStart => exact ⟨rfl, rfl⟩
    case round =>
      obtain ⟨rfl, rfl⟩ := hrel
      go_wp2_with fail
      go_ret
      exact ⟨ret_int He.out.symm, rfl⟩

set_option maxHeartbeats 800000 in
theorem lastAt_any (i n c h pc hc b0 hB b o g u : Nat) (hA : Option Addr) (s : ByteArray) (w : World) (hi : i < n) (c0 : w.cell? ⟨b0, 0, none⟩ = some (.slice (some ⟨b, o, none⟩) n c)) (c1 : w.cell? ⟨b, o + i * 9, none⟩ = some (.slice (some ⟨g, u, none⟩) (h + 1) pc))
    (c2 : w.cell? ⟨hB, 0, none⟩ = some (.slice hA h hc)) (c3 : w.cell? ⟨g, u + h, none⟩ = some (.string s)) (hh : h ≤ 9223372036854775807) :
    Calls Tryz.prog 58 #[.int .i64 i, .pointer (some ⟨b0, 0, none⟩), .pointer (some ⟨hB, 0, none⟩)] w fun e w' => e = .returned (.string s) ∧ w' = w.drew := by
  have hiI : (i : Int) < (n : Int) := by omega
  have hi0 : (0 : Int) ≤ (i : Int) := by omega
  have hh0 : (0 : Int) ≤ (h : Int) := by omega
  have hhI : (h : Int) < (h : Int) + 1 := by omega
  have hhJ : (h : Int) < ((h + 1 : Nat) : Int) := by omega
  go_enter Tryz.func58, Tryz.ntmps58
  go_wp2_with fail
  go_region_held3 (fun w' => w'.cell? ⟨b0, 0, none⟩ = some (.slice (some ⟨b, o, none⟩) n c) ∧ w'.cell? ⟨b, o + i * 9, none⟩ = some (.slice (some ⟨g, u, none⟩) (h + 1) pc) ∧ w'.cell? ⟨hB, 0, none⟩ = some (.slice hA h hc) ∧ w'.cell? ⟨g, u + h, none⟩ = some (.string s))
    (first | go_keep | exact ⟨by go_keep, by go_keep, by go_keep, by go_keep⟩)
    (fail)
  all_goals
    go_wp2_with fail
    go_ret
    exact ⟨rfl, rfl⟩

set_option maxHeartbeats 1600000 in
theorem order_any (i j b0 hB b9 : Nat) (si sj : ByteArray) (w : World) (h0 : w.cell? ⟨b9, 0, none⟩ = some (.func (.func 58) #[] #[.pointer (some ⟨b0, 0, none⟩), .pointer (some ⟨hB, 0, none⟩)]))
    (hi : ∀ w', Cls w w' → Calls Tryz.prog 58 #[.int .i64 i, .pointer (some ⟨b0, 0, none⟩), .pointer (some ⟨hB, 0, none⟩)] w' fun e w'' => e = .returned (.string si) ∧ w'' = w'.drew)
    (hj : ∀ w', Cls w w' → Calls Tryz.prog 58 #[.int .i64 j, .pointer (some ⟨b0, 0, none⟩), .pointer (some ⟨hB, 0, none⟩)] w' fun e w'' => e = .returned (.string sj) ∧ w'' = w'.drew) :
    Calls Tryz.prog 60 #[.int .i64 i, .int .i64 j, .pointer (some ⟨b9, 0, none⟩)] w fun e w' => e = .returned (.int .i64 (orI (Lib.compareBytes si.data.toList sj.data.toList) (Lib.compareInt i j))) ∧ Cls w w' := by
  have Hi := Lib.hid hi; clear hi
  have Hj := Lib.hid hj; clear hj
  have Hlt : b9 < w.heap.size := cell_lt h0
  go_enter Tryz.func60, Tryz.ntmps60
  go_wp2_with fail
  go_region_held3 (fun w' => w'.cell? ⟨b9, 0, none⟩ = some (.func (.func 58) #[] #[.pointer (some ⟨b0, 0, none⟩), .pointer (some ⟨hB, 0, none⟩)]) ∧ Cls w w')
    (first
      | exact ⟨by go_keep, (Cls.refl w).drew⟩
      | (go_split_ands; exact ⟨by go_keep, Cls.drew (by assumption)⟩)
      | (go_split_ands; exact ⟨by go_keep, Cls.alloc (by assumption) _⟩)
      | (go_split_ands; exact ⟨by go_keep, by assumption⟩)
      | (go_split_ands; exact ⟨by assumption, by assumption⟩)
      | exact ⟨by go_keep, (Cls.alloc (Cls.refl w) _).drew.drew.drew⟩)
    (first
      | (go_at_call 58; go_split_ands; (first | (with_reducible refine (Hi.out _ (by assumption)).mono ?_) | (with_reducible refine (Hj.out _ (by assumption)).mono ?_)); rintro e w' ⟨rfl, rfl⟩)
      | (go_at_call 62; refine (Tryz.strings_Compare _ _ _).mono ?_; rintro e w' ⟨rfl, rfl⟩)
      | (go_at_call 63; refine (Tryz.cmp_Compare_int _ _ _).mono ?_; rintro e w' ⟨rfl, rfl⟩)
      | (go_at_call 61; refine (cmpOr_any _ 0 _ (Lib.compareBytes si.data.toList sj.data.toList) (Lib.compareInt i j) _ (by simp [go_sem]) (by simp [go_sem])).mono ?_; rintro e w' ⟨rfl, rfl⟩))
  all_goals
    go_wp2_with fail
    go_ret
    exact ⟨rfl, (Cls.alloc (Cls.refl w) _).drew.drew.drew⟩
end Go.Proofs.YtanipbpphbkmcaaGreatDoor
