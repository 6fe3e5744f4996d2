/-
  The document's May, Twist, Turn and Flip: the same answers.
-/
import Derived.Test.YtkpbnbnfgadkcaaDoorChartE
namespace Go.Proofs.YtkpbnbnfgadkcaaDoor
open Go.RowKit
set_option linter.unusedVariables false
set_option linter.unusedSimpArgs false

theorem elt_refspot : Elt Tryd.prog 45 3 40 := Elt.mk' (z := .agg #[.slice none 0 0, .int .i64 0, .int .i64 0]) (by kernel_rfl) rfl (by decide)

theorem any_step {α : Type} {p : α → Bool} {l : List α} {k : Nat} (h : k < l.length) (hp : p l[k] = false) : (l.drop k).any p = (l.drop (k + 1)).any p := by
  rw [List.drop_eq_getElem_cons h, List.any_cons, hp, Bool.false_or]
theorem any_hit {α : Type} {p : α → Bool} {l : List α} {k : Nat} (h : k < l.length) (hp : p l[k] = true) : (l.drop k).any p = true := by
  rw [List.drop_eq_getElem_cons h, List.any_cons, hp, Bool.true_or]

theorem refMay_any (A : Option Addr) (n c : Nat) (l : List Spot) (w : World) (S : Nat → Prop) (hn63 : n ≤ 9223372036854775807) (hl : SlV rSpot w S l (.slice A n c)) :
    Calls Tryd.prog 13 #[.slice A n c] w fun e w' => e = .returned (.bool (mayB l)) ∧ w = w' := by
  have hnx := hl.n_eq
  have hm : mayB l = (decide (l.length ≤ 257) && !l.any fun s => farB s.x s.y) := rfl
  have Hm := Lib.hid hm; clear hm
  have Hnx := Lib.hid hnx; clear hnx
  go_enter Tryd.func13, Tryd.ntmps13
  go_wp2
  go_loop [3] (fun i => ∃ k : Nat, k ≤ n ∧ i = .int .i64 k ∧ Hid ((l.any fun s => farB s.x s.y) = (l.drop k).any fun s => farB s.x s.y)) (fun i => n - (intOf i).toNat)
  case atStart => exact ⟨0, Nat.zero_le _, rfl, by simp [Hid]⟩
  case round =>
    obtain ⟨k, hk, rfl, hany⟩ := hrel
    by_cases hlt : k < n
    · have hkx : k < l.length := by have := Hnx.out; omega
      obtain ⟨b, o, cs, rfl, hSb, hb1, hsp, hcell⟩ := hl.elem (List.getElem?_eq_getElem hkx)
      obtain ⟨q, rfl, hq, hx, hy⟩ := hsp
      have hc1 := hcell 1 _ rfl
      have hc2 := hcell 2 _ rfl
      simp only [rSpot, Nat.add_zero] at hc1 hc2
      clear hq hcell hx hy
      have hhit := fun h => any_hit (p := fun s : Spot => farB s.x s.y) hkx h
      have hmiss := fun h => any_step (p := fun s : Spot => farB s.x s.y) hkx h
      have Hhit := Lib.hid hhit; clear hhit
      have Hmiss := Lib.hid hmiss; clear hmiss
      have hkn : (k : Int) < (n : Int) := by omega
      generalize l[k] = s at *
      obtain ⟨path, x, y⟩ := s
      simp only at hc1 hc2
      by_cases h1 : x < -1099511627776
      · go_wp2
        go_ret
        exact ⟨ret_bool (by rw [Hm.out, hany.out, Hhit.out (by simp [farB, h1])]; simp), rfl⟩
      · by_cases h2 : 1099511627776 < x
        · go_wp2
          go_ret
          exact ⟨ret_bool (by rw [Hm.out, hany.out, Hhit.out (by simp [farB, h2])]; simp), rfl⟩
        · by_cases h3 : y < -1099511627776
          · go_wp2
            go_ret
            exact ⟨ret_bool (by rw [Hm.out, hany.out, Hhit.out (by simp [farB, h3])]; simp), rfl⟩
          · by_cases h4 : 1099511627776 < y
            · go_wp2
              go_ret
              exact ⟨ret_bool (by rw [Hm.out, hany.out, Hhit.out (by simp [farB, h4])]; simp), rfl⟩
            · have hno : Hid (farB x y = false) := by simp [Hid, farB]; omega
              go_wp2
              go_round
              case rel => exact ⟨k + 1, by omega, by go_num, hany.out.trans (Hmiss.out hno.out)⟩
              case measure => simp [intOf]; omega
    · have hkn : k = n := by omega
      have he : Hid ((l.any fun s => farB s.x s.y) = false) := by
        unfold Hid
        rw [hany.out, List.drop_eq_nil_of_le (by have := Hnx.out; omega), List.any_nil]
      go_wp2
      go_ret
      exact ⟨ret_bool (by rw [Hm.out, he.out, Hnx.out]; simp; omega), rfl⟩

end Go.Proofs.YtkpbnbnfgadkcaaDoor
