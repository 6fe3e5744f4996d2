/-
  The library's search with a function over strings (slices.IndexFunc, ContainsFunc): the first place at which a predicate holds.
-/
import Derived.Test.YtkpbnbnfgadkcaaDoorRows
import Derived.Test.YtkpbnbnfgadkcaaDoorOwn
import Derived.Test.YtkpbnbnfgadkcaaDoorPlain
import Derived.WalkKit
import Derived.WalkSpells
import Derived.WalkLawsBesides
import Derived.IntWalk
import Derived.Lib.Hide
namespace Go.Proofs.YtkpbnbnfgadkcaaDoor
open Go.RowKit
set_option linter.unusedVariables false
set_option linter.unusedSimpArgs false

theorem indexFuncStr (g : FuncId) (lb : Array Value) (p : ByteArray → Bool) (A : Option Addr) (n c : Nat) (l : List ByteArray) (w : World) (S : Nat → Prop)
    (hn63 : n ≤ 9223372036854775807) (hl : SlV rStr w S l (.slice A n c))
    (hp : ∀ (W : World) (s : ByteArray), s.size ≤ maxLen → Calls Tryd.prog g (#[.string s] ++ lb) W fun e W' => e = .returned (.bool (p s)) ∧ Below W.heap.size W W')
    (hg : Enters Tryd.prog g) :
    Calls Tryd.prog 29 #[.slice A n c, .func (.func g) #[] lb] w fun e w' => e = .returned (.int .i64 (idxFrom p 0 l)) ∧ Below w.heap.size w w' := by
  have hnx := hl.n_eq
  have Hnx := Lib.hid hnx; clear hnx
  have Hp := Lib.hid hp; clear hp
  go_enter Tryd.func29, Tryd.ntmps29
  go_wp2
  go_loopw [8] (fun i wr => ∃ k : Nat, k ≤ n ∧ i = .int .i64 k ∧ Hid (idxFrom p 0 l = idxFrom p k (l.drop k)) ∧ Below w.heap.size w wr) (fun i _ => n - (intOf i).toNat)
  case atStart => exact ⟨0, Nat.zero_le _, rfl, by simp [Hid], Below.refl _ _⟩
  case round =>
    obtain ⟨k, hk, rfl, hidx, hbel⟩ := hrel
    by_cases hlt : k < n
    · have hkx : k < l.length := by have := Hnx.out; omega
      have hlw := (hl.more (S' := fun b => S b ∧ b < w.heap.size) (fun b hb hlt => ⟨hb, hlt⟩)).below hbel (fun b hb => hb.2)
      obtain ⟨b, o, cs, rfl, hSb, hb1, hsp, hcell⟩ := hlw.elem (List.getElem?_eq_getElem hkx)
      obtain ⟨rfl, hsz⟩ := hsp
      have hc0 := hcell 0 _ rfl
      simp only [rStr, Nat.mul_one, Nat.add_zero] at hc0
      have hhit := fun h => idxFrom_hit (p := p) hkx h
      have hmiss := fun h => idxFrom_miss (p := p) hkx h
      have Hhit := Lib.hid hhit; clear hhit
      have Hmiss := Lib.hid hmiss; clear hmiss
      have Hcall := Lib.hid (Hp.out wr l[k] hsz)
      have hkn : (k : Int) < (n : Int) := by omega
      generalize l[k] = s at *
      clear hcell hlw hsz
      have hg' := fun args => hg args wr
      cases hps : p s
      all_goals
        rw [hps] at Hcall
        have Hps := Lib.hid hps; clear hps
        go_wp2_with fail
        refine Hcall.out.mono ?_
        rintro e w1 ⟨rfl, hb2⟩
        go_wp2_with fail
      · go_roundw
        case rel => exact ⟨k + 1, by omega, by go_num, hidx.out.trans (Hmiss.out Hps.out), hbel.trans (hb2.mono hbel.size)⟩
        case measure => simp [intOf]; omega
      · go_ret
        exact ⟨ret_int (hidx.out.trans (Hhit.out Hps.out)).symm, hbel.trans (hb2.mono hbel.size)⟩
    · go_wp2
      go_ret
      exact ⟨ret_int (hidx.out.trans (idxFrom_end (by have := Hnx.out; omega))).symm, hbel⟩

theorem containsFuncStr (g : FuncId) (lb : Array Value) (p : ByteArray → Bool) (A : Option Addr) (n c : Nat) (l : List ByteArray) (w : World) (S : Nat → Prop)
    (hn63 : n ≤ 9223372036854775807) (hl : SlV rStr w S l (.slice A n c))
    (hp : ∀ (W : World) (s : ByteArray), s.size ≤ maxLen → Calls Tryd.prog g (#[.string s] ++ lb) W fun e W' => e = .returned (.bool (p s)) ∧ Below W.heap.size W W')
    (hg : Enters Tryd.prog g) :
    Calls Tryd.prog 15 #[.slice A n c, .func (.func g) #[] lb] w fun e w' => e = .returned (.bool (l.any p)) ∧ Below w.heap.size w w' := by
  have Hc := Lib.hid (indexFuncStr g lb p A n c l w S hn63 hl hp hg)
  clear hp hl
  have Ha := Lib.hid (idxFrom_any p l 0)
  generalize idxFrom p 0 l = j at *
  go_enter Tryd.func15, Tryd.ntmps15
  go_wp2_with fail
  refine Hc.out.mono ?_
  rintro e w1 ⟨rfl, hb2⟩
  go_wp2_with fail
  go_ret
  exact ⟨ret_bool (by rw [← Ha.out]), hb2⟩
end Go.Proofs.YtkpbnbnfgadkcaaDoor
