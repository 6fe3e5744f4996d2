/-
  Two lists of strings compared, element by element: what is answered is whether they are one; draws alone.
-/
import Derived.Test.YtkpbnbnfgadkcaaRows
import Derived.Test.YtkpbnbnfgadkcaaRep
import Derived.Test.YtkpbnbnfgadkcaaPlain
import Derived.WalkKit
import Derived.WalkSpells
import Derived.WalkLawsBesides
import Derived.Deep.QuietTactic
import Derived.BigQuiet
import Derived.IntWalk
import Derived.Lib.Hide
namespace Go.Proofs.Ytkpbnbnfgadkcaa
open Go.RowKit
set_option linter.unusedVariables false
set_option linter.unusedSimpArgs false

theorem names_any (A B : Option Addr) (n m c d : Nat) (xs ys : List ByteArray) (w : World) (S T : Nat → Prop)
    (hx : SlV rStr w S xs (.slice A n c)) (hy : SlV rStr w T ys (.slice B m d)) :
    Calls Try.prog 22 #[.slice A n c, .slice B m d] w fun e w' => e = .returned (.bool (decide (xs = ys))) ∧ ∃ k, w' = w.drewN k := by
  have hnx := hx.n_eq
  have hny := hy.n_eq
  have hcx := hx.cap_le
  have hcy := hy.cap_le
  unfold maxLen at hcx hcy
  by_cases hnm : n = m
  · have hb : ((n : Int) != (m : Int)) = false := by simp [hnm]
    have hn63 : n ≤ 9223372036854775807 := by omega
    have Hnm := Lib.hid hnm; clear hnm
    have Hnx := Lib.hid hnx; clear hnx
    have Hny := Lib.hid hny; clear hny
    clear hcx hcy
    go_enter Try.func22, Try.ntmps22
    go_wp2
    go_loopw [5] (fun i wr => ∃ k : Nat, k ≤ n ∧ i = .int .i64 k ∧ Hid (xs.take k = ys.take k) ∧ ∃ q, wr = w.drewN q) (fun i _ => n - (intOf i).toNat)
    case atStart => exact ⟨0, Nat.zero_le _, rfl, by simp [Hid], 0, rfl⟩
    case round =>
      obtain ⟨k, hk, rfl, heq, q, rfl⟩ := hrel
      by_cases hlt : k < n
      · have hkx : k < xs.length := by have := Hnx.out; omega
        have hky : k < ys.length := by have := Hny.out; have := Hnm.out; omega
        have hkm : k < m := by have := Hnm.out; omega
        obtain ⟨b, o, cs, rfl, _, hb1, ⟨rfl, hl1⟩, hcell⟩ := hx.elem (List.getElem?_eq_getElem hkx)
        obtain ⟨b', o', cs', rfl, _, hb2, ⟨rfl, hl2⟩, hcell'⟩ := hy.elem (List.getElem?_eq_getElem hky)
        have hc1 := hcell 0 _ rfl
        have hc2 := hcell' 0 _ rfl
        simp only [rStr, Nat.mul_one, Nat.add_zero] at hc1 hc2
        clear hcell hcell'
        have hne := fun h => ne_at hkx hky h
        have hen := fun h => take_next heq.out hkx hky h
        have Hne := Lib.hid hne; clear hne
        have Hen := Lib.hid hen; clear hen
        generalize xs[k] = s1 at *
        generalize ys[k] = s2 at *
        have hkn : (k : Int) < (n : Int) := by omega
        have hkm' : (k : Int) < (m : Int) := by omega
        go_wp2_with fail
        go_quiet (fail)
        go_wp2_with fail
        · go_ret
          exact ⟨ret_bool (by simpa using Hne.out (bytes_ne (by assumption))), q + nq, World.drewN_drewN _ _ _⟩
        · go_roundw
          case rel => exact ⟨k + 1, by omega, by go_num, Hen.out (bytes_eq (by assumption)), q + nq, by first | rfl | exact World.drewN_drewN _ _ _⟩
          case measure => simp [intOf]; omega
      · go_wp2
        go_ret
        exact ⟨ret_bool (by simpa using eq_of_takes heq.out (by have := Hnx.out; omega) (by have := Hny.out; have := Hnm.out; omega)), q, rfl⟩
  · have hb : ((n : Int) != (m : Int)) = true := by simp; omega
    go_enter Try.func22, Try.ntmps22
    go_wp2
    go_ret
    exact ⟨ret_bool (by symm; simp; rintro rfl; omega), 0, rfl⟩
end Go.Proofs.Ytkpbnbnfgadkcaa
