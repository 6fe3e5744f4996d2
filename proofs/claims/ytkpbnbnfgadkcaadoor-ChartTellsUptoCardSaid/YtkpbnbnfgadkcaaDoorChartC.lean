/-
  May a drawing be: the library's search with a function over spots, and the program's answer.
-/
import Derived.Test.YtkpbnbnfgadkcaaDoorChartB
namespace Go.Proofs.YtkpbnbnfgadkcaaDoor
open Go.RowKit
set_option linter.unusedVariables false
set_option linter.unusedSimpArgs false

/-- slices.IndexFunc over spots, whatever function answers p -/
theorem indexFuncSpot (g : FuncId) (lb : Array Value) (p : Spot → Bool) (A : Option Addr) (n c : Nat) (l : List Spot) (w : World) (S : Nat → Prop)
    (hn63 : n ≤ 9223372036854775807) (hl : SlV rSpot w S l (.slice A n c))
    (hp : ∀ (W : World) (s : Spot) (q : Value), Below w.heap.size w W → SlV rStr W S s.path q → Calls Tryd.prog g (#[.agg #[q, .int .i64 s.x, .int .i64 s.y]] ++ lb) W fun e W' => e = .returned (.bool (p s)) ∧ Below W.heap.size W W')
    (hg : Enters Tryd.prog g) :
    Calls Tryd.prog 39 #[.slice A n c, .func (.func g) #[] lb] w fun e w' => e = .returned (.int .i64 (idxFrom p 0 l)) ∧ Below w.heap.size w w' := by
  have hnx := hl.n_eq
  have Hnx := Lib.hid hnx; clear hnx
  have Hp := Lib.hid hp; clear hp
  go_enter Tryd.func39, Tryd.ntmps39
  go_wp2
  go_loopw [8] (fun i wr => ∃ k : Nat, k ≤ n ∧ i = .int .i64 k ∧ Hid (idxFrom p 0 l = idxFrom p k (l.drop k)) ∧ Below w.heap.size w wr) (fun i _ => n - (intOf i).toNat)
  case atStart => exact ⟨0, Nat.zero_le _, rfl, by simp [Hid], Below.refl _ _⟩
  case round =>
    obtain ⟨k, hk, rfl, hidx, hbel⟩ := hrel
    by_cases hlt : k < n
    · have hkx : k < l.length := by have := Hnx.out; omega
      have hlw := (hl.more (S' := fun b => S b ∧ b < w.heap.size) (fun b hb hlt => ⟨hb, hlt⟩)).below hbel (fun b hb => hb.2)
      obtain ⟨b, o, cs, rfl, hSb, hb1, hsp, hcell⟩ := hlw.elem (List.getElem?_eq_getElem hkx)
      obtain ⟨q, rfl, hq, hx, hy⟩ := hsp
      obtain ⟨pA, pc, rfl, _, _⟩ := hq.val
      have hc0 := hcell 0 _ rfl
      have hc1 := hcell 1 _ rfl
      have hc2 := hcell 2 _ rfl
      simp only [rSpot, Nat.add_zero] at hc0 hc1 hc2
      have hhit := fun h => idxFrom_hit (p := p) hkx h
      have hmiss := fun h => idxFrom_miss (p := p) hkx h
      have Hhit := Lib.hid hhit; clear hhit
      have Hmiss := Lib.hid hmiss; clear hmiss
      have Hcall := Lib.hid (Hp.out wr l[k] _ hbel (hq.more fun b hb _ => hb.1))
      have hkn : (k : Int) < (n : Int) := by omega
      generalize l[k] = s at *
      obtain ⟨path, x, y⟩ := s
      clear hx hy hcell hlw hq
      simp only at hc0 hc1 hc2 Hcall
      generalize path.length = pn at *
      have hg' := fun args => hg args wr
      cases hps : p ⟨path, x, y⟩
      all_goals
        rw [hps] at Hcall
        have Hps := Lib.hid hps; clear hps
        go_wp2_with fail
        refine Hcall.out.mono ?_
        rintro e w1 ⟨rfl, hb2⟩
        go_wp2_with fail
      · go_roundw
        case rel => exact ⟨k + 1, by omega, by go_num, hidx.out.trans (Hmiss.out Hps.out), hbel.trans (hb2.mono hbel.size)⟩
        case measure => simp [intOf]; omega
      · go_ret
        exact ⟨ret_int (hidx.out.trans (Hhit.out Hps.out)).symm, hbel.trans (hb2.mono hbel.size)⟩
    · go_wp2
      go_ret
      exact ⟨ret_int (hidx.out.trans (idxFrom_end (by have := Hnx.out; omega))).symm, hbel⟩

theorem enters_may1 : Enters Tryd.prog 28 := enters_of Tryd.func28 (by kernel_rfl) rfl

/-- slices.ContainsFunc over spots -/
theorem containsFuncSpot (g : FuncId) (lb : Array Value) (p : Spot → Bool) (A : Option Addr) (n c : Nat) (l : List Spot) (w : World) (S : Nat → Prop)
    (hn63 : n ≤ 9223372036854775807) (hl : SlV rSpot w S l (.slice A n c))
    (hp : ∀ (W : World) (s : Spot) (q : Value), Below w.heap.size w W → SlV rStr W S s.path q → Calls Tryd.prog g (#[.agg #[q, .int .i64 s.x, .int .i64 s.y]] ++ lb) W fun e W' => e = .returned (.bool (p s)) ∧ Below W.heap.size W W')
    (hg : Enters Tryd.prog g) :
    Calls Tryd.prog 27 #[.slice A n c, .func (.func g) #[] lb] w fun e w' => e = .returned (.bool (l.any p)) ∧ Below w.heap.size w w' := by
  have Hc := Lib.hid (indexFuncSpot g lb p A n c l w S hn63 hl hp hg)
  clear hp hl
  have Ha := Lib.hid (idxFrom_any p l 0)
  generalize idxFrom p 0 l = j at *
  go_enter Tryd.func27, Tryd.ntmps27
  go_wp2_with fail
  refine Hc.out.mono ?_
  rintro e w1 ⟨rfl, hb2⟩
  go_wp2_with fail
  go_ret
  exact ⟨ret_bool (by rw [← Ha.out]), hb2⟩

/-- may a drawing be -/
def mayB (l : List Spot) : Bool := decide (l.length ≤ 257) && !l.any fun s => farB s.x s.y

theorem may_any (A : Option Addr) (n c : Nat) (l : List Spot) (w : World) (S : Nat → Prop) (hn63 : n ≤ 9223372036854775807) (hl : SlV rSpot w S l (.slice A n c)) :
    Calls Tryd.prog 12 #[.slice A n c] w fun e w' => e = .returned (.bool (mayB l)) ∧ Below w.heap.size w w' := by
  have hnx := hl.n_eq
  by_cases h : n ≤ 257
  · have Hc := Lib.hid (containsFuncSpot 28 #[] (fun s => farB s.x s.y) A n c l w S hn63 hl (fun W s q hb hq => may1_any q s.x s.y W) enters_may1)
    have Hm : Hid (mayB l = !l.any fun s => farB s.x s.y) := by unfold Hid mayB; rw [← hnx]; simp [h]
    clear hnx hl
    generalize (l.any fun s => farB s.x s.y) = j at *
    go_enter Tryd.func12, Tryd.ntmps12
    go_wp2_with fail
    refine Hc.out.mono ?_
    rintro e w1 ⟨rfl, hb2⟩
    go_wp2_with fail
    go_ret
    exact ⟨ret_bool (by rw [Hm.out]), hb2⟩
  · have Hm : Hid (mayB l = false) := by unfold Hid mayB; rw [← hnx]; simp [h]
    clear hnx hl
    go_enter Tryd.func12, Tryd.ntmps12
    go_wp2_with fail
    go_ret
    exact ⟨ret_bool (by rw [Hm.out]), Below.refl _ _⟩
end Go.Proofs.YtkpbnbnfgadkcaaDoor
