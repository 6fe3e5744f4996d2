/-
  Spots as data; the document's spots copied as the program's. The chart's points: a spot's point, the closures that turn one, quarters, what may be; over whole numbers. The number of the plane that turns by some quarters. May a drawing be: the library's search with a function over spots, and the program's answer. A spot made of a path and a point; a drawing with each point changed. The program's Twist, Turn and Flip. A drawing's frame: the least and the greatest of each part.
-/
import Derived.Test.YtkpbnbnfgadkcaaGreatDoorRows
import Derived.Test.YtkpbnbnfgadkcaaGreatDoorOwn
import Derived.Test.YtkpbnbnfgadkcaaGreatDoorPlain
import Derived.WalkKit
import Derived.WalkSpells
import Derived.WalkLawsBesides
import Derived.Deep.QuietTactic
import Derived.BigQuiet
import Derived.Deep.RegionHeld3
import Derived.IntWalk
import Derived.Lib.Hide
import Derived.KernelRfl
import Derived.Test.YtkpbnbnfgadkcaaGreatDoorCx
import Derived.Deep.DeepFit
import Derived.Lib.SliceRun
namespace Go.Proofs.YtkpbnbnfgadkcaaGreatDoor
open Go.RowKit
set_option linter.unusedVariables false
set_option linter.unusedSimpArgs false

structure Spot where
  path : List ByteArray
  x : Int
  y : Int

def rSpot : Rp Spot where
  size := 3
  holds := fun w S s cs => ∃ p, cs = [p, .int .i64 s.x, .int .i64 s.y] ∧ SlV rStr w S s.path p ∧ I64 s.x ∧ I64 s.y
  len := fun ⟨_, h, _⟩ => by rw [h]; rfl
  one := fun ⟨p, h, hp, _⟩ => by
    obtain ⟨A, c, rfl, _⟩ := hp.val
    rw [h]; simp [Value.oneCell']
  mono := fun ⟨p, h, hp, hi⟩ hk => ⟨p, h, (rSlice rStr).mono hp hk, hi⟩

theorem elt_spot : Elt Tryz.prog 38 3 40 := Elt.mk' (z := .agg #[.slice none 0 0, .int .i64 0, .int .i64 0]) (by kernel_rfl) rfl (by decide)

end Go.Proofs.YtkpbnbnfgadkcaaGreatDoor
namespace Go.Proofs.YtkpbnbnfgadkcaaGreatDoor
open Go.RowKit
set_option linter.unusedVariables false
set_option linter.unusedSimpArgs false

theorem point_any (p : Value) (x y : Int) (w : World) :
    Calls Tryz.prog 51 #[.agg #[p, .int .i64 x, .int .i64 y]] w fun e w' => e = .returned (.complex .f64 (floatOfInt .f64 x) (floatOfInt .f64 y)) ∧ Below w.heap.size w w' := by
  go_enter Tryz.func51, Tryz.ntmps51
  go_wp2
  go_ret
  exact ⟨rfl, (Below.refl _ _).alloc (Nat.le_refl _) _⟩

/-- what a closure on points must do: F on whole numbers, wherever what it captured lies as it did -/
def OnPoints (w : World) (g : FuncId) (lb : Array Value) (F : Int → Int → Int × Int) : Prop :=
  ∀ (W : World) (re im : Nat) (x y : Int), Below w.heap.size w W → Flt re x → Flt im y → x.natAbs ≤ 1099511627776 → y.natAbs ≤ 1099511627776 →
    Calls Tryz.prog g (#[.complex .f64 re im] ++ lb) W fun e W' => ∃ re' im', e = .returned (.complex .f64 re' im') ∧ Flt re' (F x y).1 ∧ Flt im' (F x y).2 ∧ W = W'

theorem twist1_on (w : World) (b o : Nat) (c d : Nat) (u v : Int) (hc : w.cell? ⟨b, o, none⟩ = some (.complex .f64 c d)) (hu : Flt c u) (hv : Flt d v) (hu' : u.natAbs ≤ 1024) (hv' : v.natAbs ≤ 1024) :
    OnPoints w 32 #[.pointer (some ⟨b, o, none⟩)] (fun x y => (x * u - y * v, x * v + y * u)) := by
  intro W re im x y hb hx hy hx' hy'
  obtain ⟨e, f, he, h1, h2⟩ := cmul_small hx hy hu hv hx' hy' hu' hv'
  have hcW : W.cell? ⟨b, o, none⟩ = some (.complex .f64 c d) := (hb.cell (p := ⟨b, o, none⟩) (cell_lt hc)).trans hc
  have hm := run_complex_mul (P := Tryz.prog) W 59 re im c d e f he
  clear hc hb
  simp only [List.push_toArray, Array.append_eq_append]
  show Calls _ _ #[_, _] _ _
  go_enter Tryz.func32, Tryz.ntmps32
  go_wp2
  go_ret
  exact ⟨e, f, rfl, h1, h2, rfl⟩

theorem turn1_on (w : World) (b o : Nat) (c d : Nat) (u v : Int) (hc : w.cell? ⟨b, o, none⟩ = some (.complex .f64 c d)) (hu : Flt c u) (hv : Flt d v) (hu' : u.natAbs ≤ 1024) (hv' : v.natAbs ≤ 1024) :
    OnPoints w 31 #[.pointer (some ⟨b, o, none⟩)] (fun x y => (x * u - y * v, x * v + y * u)) := by
  intro W re im x y hb hx hy hx' hy'
  obtain ⟨e, f, he, h1, h2⟩ := cmul_small hx hy hu hv hx' hy' hu' hv'
  have hcW : W.cell? ⟨b, o, none⟩ = some (.complex .f64 c d) := (hb.cell (p := ⟨b, o, none⟩) (cell_lt hc)).trans hc
  have hm := run_complex_mul (P := Tryz.prog) W 59 re im c d e f he
  clear hc hb
  show Calls _ _ #[_, _] _ _
  go_enter Tryz.func31, Tryz.ntmps31
  go_wp2
  go_ret
  exact ⟨e, f, rfl, h1, h2, rfl⟩

end Go.Proofs.YtkpbnbnfgadkcaaGreatDoor
namespace Go.Proofs.YtkpbnbnfgadkcaaGreatDoor
open Go.RowKit
set_option linter.unusedVariables false
set_option linter.unusedSimpArgs false

/-- the number that turns by k quarters -/
def quart : Nat → Int × Int
  | 0 => (1, 0)
  | k + 1 => (-(quart k).2, (quart k).1)
theorem quart_small : ∀ k, (quart k).1.natAbs ≤ 1 ∧ (quart k).2.natAbs ≤ 1 := by
  intro k
  induction k with
  | zero => simp [quart]
  | succ k ih => simp only [quart]; omega

/-- how many quarters are left of q -/
def quarters (q : Int) : Int := (q.tmod 4 + 4) % 4
theorem tmod4 (q : Int) : -3 ≤ q.tmod 4 ∧ q.tmod 4 ≤ 3 := by
  have h1 := Int.tmod_lt_of_pos q (show (0 : Int) < 4 by decide)
  have h2 : -4 < q.tmod 4 := by
    have := Int.lt_tmod_of_pos q (show (0 : Int) < 4 by decide)
    simpa using this
  omega
theorem quarters_lt (q : Int) : 0 ≤ quarters q ∧ quarters q ≤ 3 := by unfold quarters; omega

theorem turn_any (q : Int) (hq : I64 q) (w : World) :
    Calls Tryz.prog 20 #[.int .i64 q] w fun e w' => ∃ re im, e = .returned (.complex .f64 re im) ∧ Flt re (quart (quarters q).toNat).1 ∧ Flt im (quart (quarters q).toNat).2 ∧ w = w' := by
  obtain ⟨hm1, hm2⟩ := tmod4 q
  obtain ⟨hq1, hq2⟩ := quarters_lt q
  unfold quarters at hq1 hq2
  unfold I64 at hq
  obtain ⟨hq3, hq4⟩ := hq
  go_enter Tryz.func20, Tryz.ntmps20
  go_wp2
  go_loop [3, 8] (fun z i => ∃ k : Nat, (k : Int) ≤ (q.tmod 4 + 4) % 4 ∧ i = .int .i64 k ∧ ∃ re im, z = .complex .f64 re im ∧ Flt re (quart k).1 ∧ Flt im (quart k).2) (fun _ i => 4 - (intOf i).toNat)
  case atStart => exact ⟨0, hq1, rfl, _, _, rfl, flt_one, flt_zero⟩
  case round =>
    obtain ⟨k, hk, rfl, re, im, rfl, hre, him⟩ := hrel
    obtain ⟨s1, s2⟩ := quart_small k
    by_cases hlt : (k : Int) < (q.tmod 4 + 4) % 4
    · obtain ⟨e, f, he, h1, h2⟩ := cmul_small hre him flt_zero flt_one (by omega) (by omega) (by decide) (by decide)
      have hm := fun W => run_complex_mul (P := Tryz.prog) W 59 re im 0 4607182418800017408 e f he
      have h1' : Flt e (quart (k + 1)).1 := by simpa [quart] using h1
      have h2' : Flt f (quart (k + 1)).2 := by simpa [quart] using h2
      clear h1 h2 hre him he
      go_wp2
      go_round
      case rel => exact ⟨k + 1, by omega, by go_num, _, _, rfl, h1', h2'⟩
      case measure => simp [intOf]; omega
    · go_wp2
      go_ret
      have hkk : k = (quarters q).toNat := by unfold quarters; omega
      exact ⟨_, _, rfl, by rw [← hkk]; exact hre, by rw [← hkk]; exact him, rfl⟩

/-- is a spot too far? -/
def farB (x y : Int) : Bool := decide (x < -1099511627776) || decide (1099511627776 < x) || decide (y < -1099511627776) || decide (1099511627776 < y)

theorem may1_any (p : Value) (x y : Int) (w : World) :
    Calls Tryz.prog 50 #[.agg #[p, .int .i64 x, .int .i64 y]] w fun e w' => e = .returned (.bool (farB x y)) ∧ Below w.heap.size w w' := by
  by_cases h1 : x < -1099511627776
  · go_enter Tryz.func50, Tryz.ntmps50
    go_wp2
    go_ret
    exact ⟨ret_bool (by simp [farB, h1]), (Below.refl _ _).alloc (Nat.le_refl _) _⟩
  · by_cases h2 : 1099511627776 < x
    · go_enter Tryz.func50, Tryz.ntmps50
      go_wp2
      go_ret
      exact ⟨ret_bool (by simp [farB, h2]), (Below.refl _ _).alloc (Nat.le_refl _) _⟩
    · by_cases h3 : y < -1099511627776
      · go_enter Tryz.func50, Tryz.ntmps50
        go_wp2
        go_ret
        exact ⟨ret_bool (by simp [farB, h3]), (Below.refl _ _).alloc (Nat.le_refl _) _⟩
      · by_cases h4 : 1099511627776 < y
        all_goals
          go_enter Tryz.func50, Tryz.ntmps50
          go_wp2
          go_ret
          exact ⟨ret_bool (by simp [farB, h1, h2, h3, h4]), (Below.refl _ _).alloc (Nat.le_refl _) _⟩
end Go.Proofs.YtkpbnbnfgadkcaaGreatDoor
namespace Go.Proofs.YtkpbnbnfgadkcaaGreatDoor
open Go.RowKit
set_option linter.unusedVariables false
set_option linter.unusedSimpArgs false

/-- slices.IndexFunc over spots, whatever function answers p -/
theorem indexFuncSpot (g : FuncId) (lb : Array Value) (p : Spot → Bool) (A : Option Addr) (n c : Nat) (l : List Spot) (w : World) (S : Nat → Prop)
    (hn63 : n ≤ 9223372036854775807) (hl : SlV rSpot w S l (.slice A n c))
    (hp : ∀ (W : World) (s : Spot) (q : Value), Below w.heap.size w W → SlV rStr W S s.path q → Calls Tryz.prog g (#[.agg #[q, .int .i64 s.x, .int .i64 s.y]] ++ lb) W fun e W' => e = .returned (.bool (p s)) ∧ Below W.heap.size W W')
    (hg : Enters Tryz.prog g) :
    Calls Tryz.prog 66 #[.slice A n c, .func (.func g) #[] lb] w fun e w' => e = .returned (.int .i64 (idxFrom p 0 l)) ∧ Below w.heap.size w w' := by
  have hnx := hl.n_eq
  have Hnx := Lib.hid hnx; clear hnx
  have Hp := Lib.hid hp; clear hp
  go_enter Tryz.func66, Tryz.ntmps66
  go_wp2
  go_loopw [8] (fun i wr => ∃ k : Nat, k ≤ n ∧ i = .int .i64 k ∧ Hid (idxFrom p 0 l = idxFrom p k (l.drop k)) ∧ Below w.heap.size w wr) (fun i _ => n - (intOf i).toNat)
  case atStart => exact ⟨0, Nat.zero_le _, rfl, by simp [Hid], Below.refl _ _⟩
  case round =>
    obtain ⟨k, hk, rfl, hidx, hbel⟩ := hrel
    by_cases hlt : k < n
    · have hkx : k < l.length := by have := Hnx.out; omega
      have hlw := (hl.more (S' := fun b => S b ∧ b < w.heap.size) (fun b hb hlt => ⟨hb, hlt⟩)).below hbel (fun b hb => hb.2)
      obtain ⟨b, o, cs, rfl, hSb, hb1, hsp, hcell⟩ := hlw.elem (List.getElem?_eq_getElem hkx)
      obtain ⟨q, rfl, hq, hx, hy⟩ := hsp
      obtain ⟨pA, pc, rfl, _, _⟩ := hq.val
      have hc0 := hcell 0 _ rfl
      have hc1 := hcell 1 _ rfl
      have hc2 := hcell 2 _ rfl
      simp only [rSpot, Nat.add_zero] at hc0 hc1 hc2
      have hhit := fun h => idxFrom_hit (p := p) hkx h
      have hmiss := fun h => idxFrom_miss (p := p) hkx h
      have Hhit := Lib.hid hhit; clear hhit
      have Hmiss := Lib.hid hmiss; clear hmiss
      have Hcall := Lib.hid (Hp.out wr l[k] _ hbel (hq.more fun b hb _ => hb.1))
      have hkn : (k : Int) < (n : Int) := by omega
      generalize l[k] = s at *
      obtain ⟨path, x, y⟩ := s
      clear hx hy hcell hlw hq
      simp only at hc0 hc1 hc2 Hcall
      generalize path.length = pn at *
      have hg' := fun args => hg args wr
      cases hps : p ⟨path, x, y⟩
      all_goals
        rw [hps] at Hcall
        have Hps := Lib.hid hps; clear hps
        go_wp2_with fail
        refine Hcall.out.mono ?_
        rintro e w1 ⟨rfl, hb2⟩
        go_wp2_with fail
      · go_roundw
        case rel => exact ⟨k + 1, by omega, by go_num, hidx.out.trans (Hmiss.out Hps.out), hbel.trans (hb2.mono hbel.size)⟩
        case measure => simp [intOf]; omega
      · go_ret
        exact ⟨ret_int (hidx.out.trans (Hhit.out Hps.out)).symm, hbel.trans (hb2.mono hbel.size)⟩
    · go_wp2
      go_ret
      exact ⟨ret_int (hidx.out.trans (idxFrom_end (by have := Hnx.out; omega))).symm, hbel⟩

theorem enters_may1 : Enters Tryz.prog 50 := enters_of Tryz.func50 (by kernel_rfl) rfl

/-- slices.ContainsFunc over spots -/
theorem containsFuncSpot (g : FuncId) (lb : Array Value) (p : Spot → Bool) (A : Option Addr) (n c : Nat) (l : List Spot) (w : World) (S : Nat → Prop)
    (hn63 : n ≤ 9223372036854775807) (hl : SlV rSpot w S l (.slice A n c))
    (hp : ∀ (W : World) (s : Spot) (q : Value), Below w.heap.size w W → SlV rStr W S s.path q → Calls Tryz.prog g (#[.agg #[q, .int .i64 s.x, .int .i64 s.y]] ++ lb) W fun e W' => e = .returned (.bool (p s)) ∧ Below W.heap.size W W')
    (hg : Enters Tryz.prog g) :
    Calls Tryz.prog 49 #[.slice A n c, .func (.func g) #[] lb] w fun e w' => e = .returned (.bool (l.any p)) ∧ Below w.heap.size w w' := by
  have Hc := Lib.hid (indexFuncSpot g lb p A n c l w S hn63 hl hp hg)
  clear hp hl
  have Ha := Lib.hid (idxFrom_any p l 0)
  generalize idxFrom p 0 l = j at *
  go_enter Tryz.func49, Tryz.ntmps49
  go_wp2_with fail
  refine Hc.out.mono ?_
  rintro e w1 ⟨rfl, hb2⟩
  go_wp2_with fail
  go_ret
  exact ⟨ret_bool (by rw [← Ha.out]), hb2⟩

/-- may a drawing be -/
def mayB (l : List Spot) : Bool := decide (l.length ≤ 257) && !l.any fun s => farB s.x s.y

theorem may_any (A : Option Addr) (n c : Nat) (l : List Spot) (w : World) (S : Nat → Prop) (hn63 : n ≤ 9223372036854775807) (hl : SlV rSpot w S l (.slice A n c)) :
    Calls Tryz.prog 29 #[.slice A n c] w fun e w' => e = .returned (.bool (mayB l)) ∧ Below w.heap.size w w' := by
  have hnx := hl.n_eq
  by_cases h : n ≤ 257
  · have Hc := Lib.hid (containsFuncSpot 50 #[] (fun s => farB s.x s.y) A n c l w S hn63 hl (fun W s q hb hq => may1_any q s.x s.y W) enters_may1)
    have Hm : Hid (mayB l = !l.any fun s => farB s.x s.y) := by unfold Hid mayB; rw [← hnx]; simp [h]
    clear hnx hl
    generalize (l.any fun s => farB s.x s.y) = j at *
    go_enter Tryz.func29, Tryz.ntmps29
    go_wp2_with fail
    refine Hc.out.mono ?_
    rintro e w1 ⟨rfl, hb2⟩
    go_wp2_with fail
    go_ret
    exact ⟨ret_bool (by rw [Hm.out]), hb2⟩
  · have Hm : Hid (mayB l = false) := by unfold Hid mayB; rw [← hnx]; simp [h]
    clear hnx hl
    go_enter Tryz.func29, Tryz.ntmps29
    go_wp2_with fail
    go_ret
    exact ⟨ret_bool (by rw [Hm.out]), Below.refl _ _⟩
end Go.Proofs.YtkpbnbnfgadkcaaGreatDoor
namespace Go.Proofs.YtkpbnbnfgadkcaaGreatDoor
open Go.RowKit
set_option maxRecDepth 100000
set_option linter.unusedVariables false
set_option linter.unusedSimpArgs false

theorem elt_str : Elt Tryz.prog 9 1 16 := Elt.mk' (z := .string ByteArray.empty) (by kernel_rfl) rfl (by decide)

theorem cloneStr_any (A : Option Addr) (n c : Nat) (l : List ByteArray) (w : World) (S : Nat → Prop) (hreach : l.length * 16 ≤ 140737488351232) (hl : SlV rStr w S l (.slice A n c)) :
    Calls Tryz.prog 35 #[.slice A n c] w fun e w' => ∃ v, e = .returned v ∧ SlV rStr w' (fun b => w.heap.size ≤ b) l v ∧ Below w.heap.size w w' := by
  have he := fun W => Lib.run_eql_slice_nil (P := Tryz.prog) W 36 9 A n c 0 0 Tryz.underlying36
  rcases A with _ | ad
  · obtain ⟨rfl, rfl⟩ := hl.none_
    have hn0 : n = 0 := hl.n_eq
    subst hn0
    simp only [Option.isNone_none] at he
    go_enter Tryz.func35, Tryz.ntmps35
    go_wp2
    go_ret
    exact ⟨_, rfl, SlV.nil_ _ _ _, Below.refl _ _⟩
  · simp only [Option.isNone_some] at he
    go_enter Tryz.func35, Tryz.ntmps35
    have hnx := hl.n_eq
    have Hnx := Lib.hid hnx; clear hnx
    go_wp2_with (at_builtin; (refine wpList_extend (by rfl) _ _ _ (by rfl) elt_str Tryz.underlying36 (by rfl) (Own.empty rStr w w.heap.size 9 (Nat.le_refl _)) (fun b => S b ∧ b < w.heap.size) l _ _ _ (by rfl) ((hl.more fun b h1 h2 => ⟨h1, h2⟩).alloc _) ?_ ?_ ?_ ?_ ?_); rotate_right; (intro v1 w1 hown1 hgrow hat))
    rotate_left
    · intro b hb he
      simp [Value.ownBlock] at he
      omega
    · simp [maxLen]; omega
    · simp; omega
    · simp
    go_ret
    refine ⟨_, rfl, ?_, ((Below.refl _ _).alloc (Nat.le_refl _) _).grown hgrow (by simp) (fun k hk => by simp [Value.ownBlock] at hk; omega)⟩
    have h1 := hown1.slv
    obtain ⟨A', c', g1, g2, g3, g4, g5⟩ := h1
    refine ⟨A', c', g1, g2, g3, g4, fun hn => ?_⟩
    obtain ⟨b, o, hA, hS, hb, hr⟩ := g5 hn
    subst hA
    have hv : v1.ownBlock = some b := by simp only [List.cons.injEq, and_true] at g1; rw [g1]; rfl
    have hbb := (hown1.lt b hv).1
    exact ⟨b, o, rfl, hbb, hb, fun i x hx => by
      obtain ⟨cs, ⟨h3, h4⟩, h5⟩ := hr i x hx
      exact ⟨cs, ⟨h3, h4⟩, h5⟩⟩

theorem spot_any (A : Option Addr) (n c re im : Nat) (l : List ByteArray) (x y : Int) (w : World) (S : Nat → Prop) (hreach : l.length * 16 ≤ 140737488351232) (hl : SlV rStr w S l (.slice A n c))
    (hx : Flt re x) (hy : Flt im y) (hx' : x.natAbs < 2 ^ 53) (hy' : y.natAbs < 2 ^ 53) :
    Calls Tryz.prog 22 #[.slice A n c, .complex .f64 re im] w fun e w' => ∃ q, e = .returned (.agg #[q, .int .i64 x, .int .i64 y]) ∧ SlV rStr w' (fun b => w.heap.size ≤ b) l q ∧ Below w.heap.size w w' := by
  have hcx := fun W => run_convert_float_int (P := Tryz.prog) W 70 3 .f64 .i64 re x (by kernel_rfl) Tryz.underlying3 (flt_floatToInt hx hx')
  have hcy := fun W => run_convert_float_int (P := Tryz.prog) W 70 3 .f64 .i64 im y (by kernel_rfl) Tryz.underlying3 (flt_floatToInt hy hy')
  have Hc := Lib.hid (fun o => cloneStr_any A n c l (w.alloc o) S hreach (hl.alloc o))
  clear hl
  go_enter Tryz.func22, Tryz.ntmps22
  go_wp2_with fail
  refine (Hc.out _).mono ?_
  rintro e w1 ⟨v, rfl, hq, hb⟩
  obtain ⟨qA, qc, rfl, _, _⟩ := hq.val
  have hc0 := hb.cell (p := ⟨w.heap.size, 0, none⟩) (by simp)
  have hc1 := hb.cell (p := ⟨w.heap.size, 1, none⟩) (by simp)
  have hc2 := hb.cell (p := ⟨w.heap.size, 2, none⟩) (by simp)
  have hf0 := hb.frozen (p := ⟨w.heap.size, 0, none⟩) (by simp)
  have hf1 := hb.frozen (p := ⟨w.heap.size, 1, none⟩) (by simp)
  have hf2 := hb.frozen (p := ⟨w.heap.size, 2, none⟩) (by simp)
  simp [go_sem] at hc0 hc1 hc2 hf0 hf1 hf2
  have hz := hb.size
  simp at hz
  generalize l.length = ln at *
  go_wp2
  refine bodyPost_ret (v := .agg #[.slice qA ln qc, .int .i64 x, .int .i64 y]) (by simp [results, Tryz.results22, go_sem, hc0, hc1, hc2]) rfl ⟨_, rfl, ?_, ?_⟩
  · have hq1 : SlV rStr w1 (fun b => w.heap.size + 1 ≤ b) l (.slice qA ln qc) := hq.more (fun b h _ => by simpa using h)
    refine (hq1.keep (fun b h _ => ?_)).more (fun b h _ => Nat.le_of_succ_le h)
    have h' : w.heap.size + 1 ≤ b := h
    rw [Below.heap_setCell _ _ _ _ (by show b ≠ w.heap.size; omega), Below.heap_setCell _ _ _ _ (by show b ≠ w.heap.size; omega), Below.heap_setCell _ _ _ _ (by show b ≠ w.heap.size; omega)]
  · have h1 : Below w.heap.size w w1 := ((Below.refl _ _).alloc (Nat.le_refl _) _).trans (hb.mono (by simp))
    exact ((h1.setCell (by simp) _).setCell (by simp) _).setCell (by simp) _

theorem i64_of_53 {x : Int} (h : x.natAbs < 2 ^ 53) : I64 x := by
  rw [show (2 : Nat) ^ 53 = 9007199254740992 from by decide] at h
  unfold I64; omega
theorem elem_spot {w1 w3 : World} {path : List ByteArray} {q : Value} {x y : Int} {S' : Nat → Prop} (hq : SlV rStr w3 (fun b => w1.heap.size ≤ b) path q) (hx : x.natAbs < 2 ^ 53) (hy : y.natAbs < 2 ^ 53) :
    Hid (rSpot.holds w3 (fun b => S' b ∨ (w1.heap.size ≤ b ∧ b < w3.heap.size)) ⟨path, x, y⟩ [q, .int .i64 x, .int .i64 y]) :=
  ⟨q, rfl, hq.more fun b h1 h2 => .inr ⟨h1, h2⟩, i64_of_53 hx, i64_of_53 hy⟩
theorem own_spot {α : Type} {r : Rp α} {wv w1 w3 : World} {base : Nat} {e : TypeId} {v : Value} {l : List α} {S' : Nat → Prop} (h : Own r wv base e v l S') (hb1 : Below wv.drew.heap.size wv.drew w1) (hb3 : Below w1.heap.size w1 w3) :
    Hid (Own r w3 base e v l (fun b => S' b ∨ (w1.heap.size ≤ b ∧ b < w3.heap.size))) :=
  ((h.drew.keep hb1).keep hb3).moreNew fun k hk => ((h.drew.keep hb1).lt k hk).2

set_option maxHeartbeats 1600000 in
/-- each: a drawing with each point changed by F -/
theorem each_any (g : FuncId) (lb : Array Value) (F : Int → Int → Int × Int) (A : Option Addr) (n c : Nat) (l : List Spot) (w : World) (S : Nat → Prop) (hreach : l.length * 40 ≤ 140737488351232)
    (hpath : ∀ s ∈ l, s.path.length * 16 ≤ 140737488351232)
    (hl : SlV rSpot w S l (.slice A n c)) (hF : OnPoints w g lb F) (hg : Enters Tryz.prog g)
    (hfar : ∀ s ∈ l, s.x.natAbs ≤ 1099511627776 ∧ s.y.natAbs ≤ 1099511627776 ∧ (F s.x s.y).1.natAbs < 2 ^ 53 ∧ (F s.x s.y).2.natAbs < 2 ^ 53) :
    Calls Tryz.prog 30 #[.slice A n c, .func (.func g) #[] lb] w fun e w' => ∃ v, e = .returned v ∧ SlV rSpot w' (fun b => w.heap.size ≤ b) (l.map fun s => ⟨s.path, (F s.x s.y).1, (F s.x s.y).2⟩) v ∧ Below w.heap.size w w' := by
  have hnx := hl.n_eq
  have hn63 : n ≤ 9223372036854775807 := by omega
  have hl' := hl.more (S' := fun b => S b ∧ b < w.heap.size) fun b hb hlt => ⟨hb, hlt⟩
  have Hnx := Lib.hid hnx; clear hnx
  have HF := Lib.hid hF; clear hF
  have Hfar := Lib.hid hfar; clear hfar
  have Hpath := Lib.hid hpath; clear hpath
  go_enter Tryz.func30, Tryz.ntmps30
  go_wp2
  go_loopw [5, 10] (fun v i wr => ∃ k : Nat, k ≤ n ∧ i = .int .i64 k ∧ Hid (∃ S', (∀ b, S' b → w.heap.size ≤ b) ∧ Own rSpot wr w.heap.size 38 v ((l.take k).map fun s => (⟨s.path, (F s.x s.y).1, (F s.x s.y).2⟩ : Spot)) S') ∧ Below w.heap.size w wr) (fun _ i _ => n - (intOf i).toNat)
  case atStart => exact ⟨0, Nat.zero_le _, rfl, ⟨fun _ => False, fun b h => h.elim, Own.nil_ _ _ _ _ (fun b hb => hb.elim)⟩, Below.refl _ _⟩
  case round =>
    obtain ⟨k, hk, rfl, hown, hbel⟩ := hrel
    by_cases hlt : k < n
    · have hkx : k < l.length := by have := Hnx.out; omega
      have hlw := hl'.below hbel (fun b hb => hb.2)
      obtain ⟨b, o, cs, rfl, hSb, hb1, hsp, hcell⟩ := hlw.elem (List.getElem?_eq_getElem hkx)
      obtain ⟨p, rfl, hp, hx, hy⟩ := hsp
      obtain ⟨pA, pc, rfl, _, _⟩ := hp.val
      have hc0 := hcell 0 _ rfl
      have hc1 := hcell 1 _ rfl
      have hc2 := hcell 2 _ rfl
      simp only [rSpot, Nat.add_zero] at hc0 hc1 hc2
      have hkn : (k : Int) < (n : Int) := by omega
      obtain ⟨hf1, hf2, hf3, hf4⟩ := Hfar.out l[k] (List.getElem_mem hkx)
      have hpr := Hpath.out l[k] (List.getElem_mem hkx)
      have e53 : (2 : Nat) ^ 53 = 9007199254740992 := by decide
      have hox := flt_ofInt (n := l[k].x) (by rw [e53]; omega)
      have hoy := flt_ofInt (n := l[k].y) (by rw [e53]; omega)
      have HC := Lib.hid (fun (W : World) (hbW : Below w.heap.size w W) => HF.out W _ _ _ _ hbW hox hoy hf1 hf2)
      clear hox hoy
      have htk := List.take_succ_eq_append_getElem hkx
      have Htk := Lib.hid htk; clear htk
      have hpl := hp.more (S' := fun b => b < wr.heap.size) (fun b _ h => h)
      have Hpl := Lib.hid hpl; clear hpl
      have Hf3 := Lib.hid hf3; clear hf3
      have Hf4 := Lib.hid hf4; clear hf4
      obtain ⟨S', hS', hown⟩ := hown.out
      have hlen : ((l.take k).map fun s => (⟨s.path, (F s.x s.y).1, (F s.x s.y).2⟩ : Spot)).length = k := by simp; omega
      have Hlen := Lib.hid hlen; clear hlen
      generalize hdone : ((l.take k).map fun s => (⟨s.path, (F s.x s.y).1, (F s.x s.y).2⟩ : Spot)) = done at *
      have Hdone := Lib.hid hdone; clear hdone
      generalize l[k] = s at *
      obtain ⟨path, x, y⟩ := s
      simp only at hc0 hc1 hc2 Hpl hpr HC Hf3 Hf4
      clear hp hx hy hcell hlw hf1 hf2
      generalize hpn : path.length = pn at *
      have Hpn := Lib.hid hpn; clear hpn
      generalize hfx : floatOfInt .f64 x = fx at *
      generalize hfy : floatOfInt .f64 y = fy at *
      have HPt : Hid (∀ W, Calls Tryz.prog 51 #[.agg #[.slice pA pn pc, .int .i64 x, .int .i64 y]] W fun e w' => e = .returned (.complex .f64 fx fy) ∧ Below W.heap.size W w') := fun W => by
        rw [← hfx, ← hfy]; exact point_any _ _ _ _
      have Hfx := Lib.hid hfx; clear hfx
      have Hfy := Lib.hid hfy; clear hfy
      have Hown := Lib.hid hown; clear hown
      go_wp2_with fail
      have hv0 : (wr.alloc (.cells #[.slice pA pn pc, .int .i64 x, .int .i64 y] 38)).cell? ⟨wr.heap.size, 0, none⟩ = some (.slice pA pn pc) := by simp
      have hv1 : (wr.alloc (.cells #[.slice pA pn pc, .int .i64 x, .int .i64 y] 38)).cell? ⟨wr.heap.size, 1, none⟩ = some (.int .i64 x) := by simp
      have hv2 : (wr.alloc (.cells #[.slice pA pn pc, .int .i64 x, .int .i64 y] 38)).cell? ⟨wr.heap.size, 2, none⟩ = some (.int .i64 y) := by simp
      have hbv : Below w.heap.size w (wr.alloc (.cells #[.slice pA pn pc, .int .i64 x, .int .i64 y] 38)) := hbel.alloc hbel.size _
      have Hown' := Lib.hid (Hown.out.alloc (.cells #[.slice pA pn pc, .int .i64 x, .int .i64 y] 38))
      have Hpl' := Lib.hid (Hpl.out.alloc (.cells #[.slice pA pn pc, .int .i64 x, .int .i64 y] 38))
      have hzv : (wr.alloc (.cells #[.slice pA pn pc, .int .i64 x, .int .i64 y] 38)).heap.size = wr.heap.size + 1 := by simp
      generalize wr.alloc (.cells #[.slice pA pn pc, .int .i64 x, .int .i64 y] 38) = wv at *
      have Hfarb : Hid (some wr.heap.size ≠ u5.ownBlock) := fun he => by have := (Hown.out.lt _ he.symm).2; omega
      have Hzv := Lib.hid hzv; clear hzv
      have Hbv := Lib.hid hbv; clear hbv
      have hBlt : wr.heap.size < wv.heap.size := cell_lt hv0
      have hg' := fun args (W : World) => hg args W
      go_region_held3 (fun w' => w'.cell? ⟨wr.heap.size, 0, none⟩ = some (.slice pA pn pc) ∧ w'.cell? ⟨wr.heap.size, 1, none⟩ = some (.int .i64 x) ∧ w'.cell? ⟨wr.heap.size, 2, none⟩ = some (.int .i64 y))
        (first
          | go_keep
          | exact ⟨below_cell hb1' hv0 hBlt, below_cell hb1' hv1 hBlt, below_cell hb1' hv2 hBlt⟩
          | exact ⟨below_cell hb3 (below_cell hb1' hv0 hBlt) hBlt1, below_cell hb3 (below_cell hb1' hv1 hBlt) hBlt1, below_cell hb3 (below_cell hb1' hv2 hBlt) hBlt1⟩
          | exact ⟨hgrow.cell (by go_keep) Hfarb.out, hgrow.cell (by go_keep) Hfarb.out, hgrow.cell (by go_keep) Hfarb.out⟩)
        (first
          | (go_at_call 51; refine (HPt.out _).mono ?_; rintro e w1 ⟨rfl, hb1'⟩; have Hb1 := Lib.hid (Hbv.out.drew.trans (hb1'.mono Hbv.out.size)); have hBlt1 : wr.heap.size < w1.heap.size := Nat.lt_of_lt_of_le hBlt hb1'.size)
          | (go_at_call 22; refine (spot_any _ _ _ _ _ path _ _ _ (fun b => b < wr.heap.size) (by rw [Hpn.out]; exact hpr) ((Hpl'.out.drew).belowSize hb1') Hre.out Him.out Hf3.out Hf4.out).mono ?_; rintro e w3 ⟨q, rfl, hq, hb3⟩; obtain ⟨qA, qc, rfl, _, _⟩ := hq.val; rw [Hpn.out] at hq; have HE := elem_spot hq (S' := S') Hf3.out Hf4.out; have HO := own_spot Hown'.out hb1' hb3; rw [Hpn.out]; clear hq)
          | ((with_reducible refine (HC.out w1 Hb1.out).mono ?_); rintro e w2 ⟨re, im, rfl, hre, him, rfl⟩; have Hre := Lib.hid hre; have Him := Lib.hid him; clear hre him)
          | (refine step_push (by rfl) _ _ _ (by rfl) elt_spot Tryz.underlying25 (by rfl) (HO.out.alloc _) ⟨w3.heap.size, 0, none⟩ 1 [.slice qA pn qc, .int .i64 (F x y).1, .int .i64 (F x y).2] ⟨path, (F x y).1, (F x y).2⟩ (by rfl) (Rp.alloc HE.out _)
              (news_of w3 #[.slice qA pn qc, .int .i64 (F x y).1, .int .i64 (F x y).2] _) (by rw [Hlen.out]; simp [maxLen]; omega) (by rw [Hlen.out]; omega) (by simp; exact Nat.le_succ_of_le (Nat.le_trans hbel.size (Nat.le_trans (Nat.le_of_lt hBlt1) hb3.size))) (w3.heap.size + 1) (by simp) ?_; intro g' cap w4 hown4 hgrow hat hg4))
      rw [Hlen.out] at hown4
      go_wp2
      rw [Hlen.out]
      go_roundw
      case rel =>
        have hz13 : w.heap.size ≤ w3.heap.size := Nat.le_trans hbel.size (Nat.le_trans (Nat.le_of_lt hBlt1) hb3.size)
        refine ⟨k + 1, by omega, by go_num, ⟨_, fun b hb => ?_, by rw [Htk.out, List.map_append, Hdone.out]; exact hown4⟩, ?_⟩
        · rcases hb with hb | hb
          · exact hS' b hb
          · have := hb.1; have := hbel.size; omega
        · exact ((Hb1.out.trans (hb3.mono Hb1.out.size)).alloc hz13 _).grown hgrow (by simp; omega) (fun g'' hg'' => (Hown.out.lt g'' hg'').1)
      case measure => simp [intOf]; omega
    · go_wp2
      go_ret
      have hkn : k = l.length := by have := Hnx.out; omega
      obtain ⟨S', hS', hown⟩ := hown.out
      have hsl := hown.slv
      rw [hkn, List.take_length] at hsl
      exact ⟨_, rfl, hsl.more (fun b hb _ => by rcases hb with h | h; exact hS' b h; exact h), hbel⟩
end Go.Proofs.YtkpbnbnfgadkcaaGreatDoor
namespace Go.Proofs.YtkpbnbnfgadkcaaGreatDoor
open Go.RowKit
set_option maxRecDepth 100000
set_option linter.unusedVariables false
set_option linter.unusedSimpArgs false

attribute [local go_sem] run_store_float run_store_complex

theorem enters_twist1 : Enters Tryz.prog 32 := enters_of Tryz.func32 (by kernel_rfl) rfl
theorem enters_turn1 : Enters Tryz.prog 31 := enters_of Tryz.func31 (by kernel_rfl) rfl
def twistF (a b : Int) (s : Spot) : Spot := ⟨s.path, s.x * a - s.y * b, s.x * b + s.y * a⟩
def smallB (a b : Int) : Bool := decide (-1024 ≤ a) && decide (a ≤ 1024) && decide (-1024 ≤ b) && decide (b ≤ 1024)
def twistOk (l : List Spot) (a b : Int) : Bool := mayB l && smallB a b

theorem mayB_far {l : List Spot} (h : mayB l = true) : l.length ≤ 257 ∧ ∀ s ∈ l, s.x.natAbs ≤ 1099511627776 ∧ s.y.natAbs ≤ 1099511627776 := by
  unfold mayB at h
  rw [Bool.and_eq_true, decide_eq_true_eq, Bool.not_eq_true', List.any_eq_false] at h
  refine ⟨h.1, fun s hs => ?_⟩
  have := h.2 s hs
  simp [farB] at this
  omega

def twistR (l : List Spot) (a b : Int) : Option (List Spot) := if twistOk l a b then some (l.map (twistF a b)) else none

/-- the error beside a drawing -/
def codeOf {α : Type} (r : Option α) : Int := if r.isSome then 0 else 1

/-- what a call that answers a drawing and an error leaves -/
def Drawn (w : World) (res : Option (List Spot)) (e : Ending) (w' : World) : Prop :=
  ∃ v, e = .returned (.tuple #[v, .int .i64 (codeOf res)]) ∧ SlV rSpot w' (fun _ => True) (res.getD []) v ∧ Below w.heap.size w w'

theorem mul_far {x y u v : Int} (hx : x.natAbs ≤ 1099511627776) (hy : y.natAbs ≤ 1099511627776) (hu : u.natAbs ≤ 1024) (hv : v.natAbs ≤ 1024) :
    (x * u - y * v).natAbs < 2 ^ 53 ∧ (x * v + y * u).natAbs < 2 ^ 53 := by
  have h1 : (x * u).natAbs < 1125899906842625 := natAbs_mul_lt hx hu (by omega)
  have h2 : (y * v).natAbs < 1125899906842625 := natAbs_mul_lt hy hv (by omega)
  have h4 : (x * v).natAbs < 1125899906842625 := natAbs_mul_lt hx hv (by omega)
  have h5 : (y * u).natAbs < 1125899906842625 := natAbs_mul_lt hy hu (by omega)
  rw [show (2 : Nat) ^ 53 = 9007199254740992 from by decide]
  generalize x * u = A at *
  generalize y * v = B at *
  generalize x * v = C at *
  generalize y * u = D at *
  omega

/-- each, with a closure that multiplies by the number in the block it captured -/
theorem each_mul (g : FuncId) (hg : Enters Tryz.prog g) (u v : Int) (B : Nat) (A : Option Addr) (n cp : Nat) (l : List Spot) (w : World) (S : Nat → Prop)
    (hon : OnPoints w g #[.pointer (some ⟨B, 0, none⟩)] (fun x y => (x * u - y * v, x * v + y * u)))
    (hu : u.natAbs ≤ 1024) (hv : v.natAbs ≤ 1024) (hreach : l.length * 40 ≤ 140737488351232) (hpath : ∀ s ∈ l, s.path.length * 16 ≤ 140737488351232) (hl : SlV rSpot w S l (.slice A n cp))
    (hfar : ∀ s ∈ l, s.x.natAbs ≤ 1099511627776 ∧ s.y.natAbs ≤ 1099511627776) :
    Calls Tryz.prog 30 #[.slice A n cp, .func (.func g) #[] #[.pointer (some ⟨B, 0, none⟩)]] w fun e w' => ∃ r, e = .returned r ∧ SlV rSpot w' (fun b => w.heap.size ≤ b) (l.map (twistF u v)) r ∧ Below w.heap.size w w' :=
  each_any g _ _ A n cp l w S hreach hpath hl hon hg fun s hs => by
    obtain ⟨h1, h2⟩ := hfar s hs
    obtain ⟨h3, h4⟩ := mul_far h1 h2 hu hv
    exact ⟨h1, h2, h3, h4⟩

theorem flt_small {a : Int} (h : a.natAbs ≤ 1024) : Flt (floatOfInt .f64 a) a := flt_ofInt (Nat.lt_of_le_of_lt h (by decide))

def max4 (a b c d : Int) : Int := if d > (if c > (if b > a then b else a) then c else (if b > a then b else a)) then d else (if c > (if b > a then b else a) then c else (if b > a then b else a))
theorem run_max4 {P : Program} (ts : Array TypeId) (t : TypeId) (a b c d : Int) (w : World) : (Builtin.max_ ts t #[.int .i64 a, .int .i64 b, .int .i64 c, .int .i64 d]).run P w = .ok (.int .i64 (max4 a b c d)) w := by
  simp [Builtin.max_, Builtin.max2, max4]
theorem max4_ge (a b c d : Int) : a ≤ max4 a b c d ∧ b ≤ max4 a b c d ∧ c ≤ max4 a b c d ∧ d ≤ max4 a b c d := by
  unfold max4
  refine ⟨?_, ?_, ?_, ?_⟩ <;> (repeat' split) <;> omega
theorem max4_le {a b c d m : Int} (h1 : a ≤ m) (h2 : b ≤ m) (h3 : c ≤ m) (h4 : d ≤ m) : max4 a b c d ≤ m := by
  unfold max4
  (repeat' split) <;> assumption

theorem chTwist_any (A : Option Addr) (n c : Nat) (a b : Int) (l : List Spot) (w : World) (S : Nat → Prop) (hreach : l.length * 40 ≤ 140737488351232)
    (hpath : ∀ s ∈ l, s.path.length * 16 ≤ 140737488351232) (ha : I64 a) (hb : I64 b)
    (hl : SlV rSpot w S l (.slice A n c)) :
    Calls Tryz.prog 16 #[.slice A n c, .int .i64 a, .int .i64 b] w (Drawn w (twistR l a b)) := by
  have hnx := hl.n_eq
  have hn63 : n ≤ 9223372036854775807 := by omega
  have Hc := Lib.hid (may_any A n c l w S hn63 hl)
  have Hnx := Lib.hid hnx; clear hnx
  unfold I64 at ha hb
  obtain ⟨ha1, ha2⟩ := ha
  obtain ⟨hb1, hb2⟩ := hb
  by_cases hm : mayB l = true
  · rw [hm] at Hc
    by_cases h1 : -1024 ≤ a ∧ a ≤ 1024 ∧ -1024 ≤ b ∧ b ≤ 1024
    · obtain ⟨h2, h3, h4, h5⟩ := h1
      have Hr : Hid (twistR l a b = some (l.map (twistF a b))) := by simp [Hid, twistR, twistOk, smallB, hm, h2, h3, h4, h5]
      have hM : max4 a (-a) b (-b) ≤ 1024 := max4_le (by omega) (by omega) (by omega) (by omega)
      have hmx := fun ts t x y z u w => run_max4 (P := Tryz.prog) ts t x y z u w
      rcases Int.lt_or_le b a with hba | hba
      all_goals
        have hfar := (mayB_far hm).2
        have Hfar := Lib.hid hfar; clear hfar
        clear hm
        rw [Hr.out]
        have e53 : (2 : Nat) ^ 53 = 9007199254740992 := by decide
        go_enter Tryz.func16, Tryz.ntmps16
        go_wp2_with fail
        refine Hc.out.mono ?_
        rintro e w1 ⟨rfl, hbl⟩
        have hlv := hl.belowSize hbl
        have Hlv := Lib.hid hlv; clear hlv hl
        go_wp2_with fail
        refine (each_mul _ enters_twist1 a b _ A n c l _ S (twist1_on _ _ _ _ _ a b (by simp) (flt_small (by omega)) (flt_small (by omega)) (by omega) (by omega)) (by omega) (by omega) hreach hpath (Hlv.out.alloc _) Hfar.out).mono ?_
        rintro e w2 ⟨r, rfl, hr, hb3⟩
        go_wp2_with fail
        go_ret2
        have hb4 : Below w.heap.size w w2 := (hbl.alloc hbl.size _).trans (hb3.mono (by simp; exact Nat.le_succ_of_le hbl.size))
        exact ⟨_, rfl, hr.more (fun _ _ _ => trivial), hb4⟩
    · have Hr : Hid (twistR l a b = none) := by
        have : smallB a b = false := by simp [smallB]; omega
        simp [Hid, twistR, twistOk, this]
      have hmx := fun ts t x y z u w => run_max4 (P := Tryz.prog) ts t x y z u w
      clear hm
      rw [Hr.out]
      have Hn1 := Lib.hid h1; clear h1
      go_enter Tryz.func16, Tryz.ntmps16
      go_wp2_with fail
      refine Hc.out.mono ?_
      rintro e w1 ⟨rfl, hbl⟩
      go_wp2_with fail
      all_goals first
        | (go_ret2
           exact ⟨_, rfl, SlV.nil_ _ _ _, hbl⟩)
        | (exfalso
           have hx : max4 a (wrap64 (-a)) b (wrap64 (-b)) ≤ 1024 ∧ -1024 ≤ (if b < a then b else a) := by assumption
           have hg := max4_ge a (wrap64 (-a)) b (wrap64 (-b))
           have h2 := hx.2
           refine Hn1.out ⟨?_, by omega, ?_, by omega⟩ <;> (split at h2 <;> omega))
  · rw [Bool.not_eq_true] at hm
    rw [hm] at Hc
    have Hr : Hid (twistR l a b = none) := by simp [Hid, twistR, twistOk, hm]
    clear hm
    rw [Hr.out]
    go_enter Tryz.func16, Tryz.ntmps16
    go_wp2_with fail
    refine Hc.out.mono ?_
    rintro e w1 ⟨rfl, hbl⟩
    go_wp2
    go_ret2
    exact ⟨_, rfl, SlV.nil_ _ _ _, hbl⟩

/-- turned by q quarters -/
def turnF (q : Int) : Spot → Spot := twistF (quart (quarters q).toNat).1 (quart (quarters q).toNat).2
def turnR (l : List Spot) (q : Int) : Option (List Spot) := if mayB l then some (l.map (turnF q)) else none
def flipF (s : Spot) : Spot := ⟨s.path, s.x, -s.y⟩
def flipR (l : List Spot) : Option (List Spot) := if mayB l then some (l.map flipF) else none

set_option maxHeartbeats 1600000 in
theorem chTurn_any (A : Option Addr) (n c : Nat) (q : Int) (l : List Spot) (w : World) (S : Nat → Prop) (hreach : l.length * 40 ≤ 140737488351232)
    (hpath : ∀ s ∈ l, s.path.length * 16 ≤ 140737488351232) (hq : I64 q) (hl : SlV rSpot w S l (.slice A n c)) :
    Calls Tryz.prog 14 #[.slice A n c, .int .i64 q] w (Drawn w (turnR l q)) := by
  have hnx := hl.n_eq
  have hn63 : n ≤ 9223372036854775807 := by omega
  have Hc := Lib.hid (may_any A n c l w S hn63 hl)
  have Hnx := Lib.hid hnx; clear hnx
  have Hq := Lib.hid hq; clear hq
  by_cases hm : mayB l = true
  · rw [hm] at Hc
    have Hr : Hid (turnR l q = some (l.map (turnF q))) := by simp [Hid, turnR, hm]
    have hfar := (mayB_far hm).2
    have Hfar := Lib.hid hfar; clear hfar
    clear hm
    rw [Hr.out]
    obtain ⟨s1, s2⟩ := quart_small (quarters q).toNat
    unfold turnF
    generalize hu : (quart (quarters q).toNat).1 = u at *
    generalize hv : (quart (quarters q).toNat).2 = v at *
    have Ht : Hid (∀ W, Calls Tryz.prog 20 #[.int .i64 q] W fun e w' => ∃ re im, e = .returned (.complex .f64 re im) ∧ Flt re u ∧ Flt im v ∧ W = w') := fun W => by
      rw [← hu, ← hv]; exact turn_any q Hq.out W
    have Hu := Lib.hid hu; clear hu
    have Hv := Lib.hid hv; clear hv
    go_enter Tryz.func14, Tryz.ntmps14
    go_wp2_with fail
    refine Hc.out.mono ?_
    rintro e w1 ⟨rfl, hbl⟩
    have hlv := hl.belowSize hbl
    have Hlv := Lib.hid hlv; clear hlv hl
    go_wp2_with fail
    refine (Ht.out _).mono ?_
    rintro e w2 ⟨re, im, rfl, hre, him, rfl⟩
    have Hre := Lib.hid hre; clear hre
    have Him := Lib.hid him; clear him
    go_wp2_with fail
    refine (each_mul _ enters_turn1 u v _ A n c l _ S (turn1_on _ _ _ _ _ u v (by simp) Hre.out Him.out (by omega) (by omega)) (by omega) (by omega) hreach hpath (Hlv.out.alloc _) Hfar.out).mono ?_
    rintro e w2 ⟨r, rfl, hr, hb3⟩
    go_wp2_with fail
    go_ret2
    have hb4 : Below w.heap.size w w2 := (hbl.alloc hbl.size _).trans (hb3.mono (by simp; exact Nat.le_succ_of_le hbl.size))
    exact ⟨_, rfl, hr.more (fun _ _ _ => trivial), hb4⟩
  · rw [Bool.not_eq_true] at hm
    rw [hm] at Hc
    have Hr : Hid (turnR l q = none) := by simp [Hid, turnR, hm]
    clear hm
    rw [Hr.out]
    go_enter Tryz.func14, Tryz.ntmps14
    go_wp2_with fail
    refine Hc.out.mono ?_
    rintro e w1 ⟨rfl, hbl⟩
    go_wp2
    go_ret2
    exact ⟨_, rfl, SlV.nil_ _ _ _, hbl⟩

end Go.Proofs.YtkpbnbnfgadkcaaGreatDoor
namespace Go.Proofs.YtkpbnbnfgadkcaaGreatDoor
open Go.RowKit
set_option linter.unusedVariables false
set_option linter.unusedSimpArgs false

def mn (a b : Int) : Int := if b < a then b else a
def mx (a b : Int) : Int := if b > a then b else a
def lo (g : Spot → Int) : List Spot → Int
  | [] => 0
  | s :: l => l.foldl (fun a t => mn a (g t)) (g s)
def hi (g : Spot → Int) : List Spot → Int
  | [] => 0
  | s :: l => l.foldl (fun a t => mx a (g t)) (g s)
theorem lo_snoc (g : Spot → Int) (l : List Spot) (s : Spot) (h : l ≠ []) : lo g (l ++ [s]) = mn (lo g l) (g s) := by
  cases l with
  | nil => exact absurd rfl h
  | cons t l => simp [lo, List.foldl_append]
theorem hi_snoc (g : Spot → Int) (l : List Spot) (s : Spot) (h : l ≠ []) : hi g (l ++ [s]) = mx (hi g l) (g s) := by
  cases l with
  | nil => exact absurd rfl h
  | cons t l => simp [hi, List.foldl_append]
theorem mn_self (a : Int) : mn a a = a := by simp [mn]
theorem mx_self (a : Int) : mx a a = a := by simp [mx]
/-- the frame -/
def boxV (l : List Spot) : Value := .agg #[.int .i64 (lo (·.x) l), .int .i64 (lo (·.y) l), .int .i64 (hi (·.x) l), .int .i64 (hi (·.y) l)]

/-- how the four numbers go on -/
theorem box_step {l : List Spot} {k : Nat} (h : k < l.length) (hk : k ≠ 0) :
    lo (·.x) (l.take (k + 1)) = mn (lo (·.x) (l.take k)) (l[k]).x ∧ lo (·.y) (l.take (k + 1)) = mn (lo (·.y) (l.take k)) (l[k]).y ∧
    hi (·.x) (l.take (k + 1)) = mx (hi (·.x) (l.take k)) (l[k]).x ∧ hi (·.y) (l.take (k + 1)) = mx (hi (·.y) (l.take k)) (l[k]).y := by
  have hne : l.take k ≠ [] := by
    intro e
    have h1 : (l.take k).length = 0 := by rw [e]; rfl
    rw [List.length_take] at h1
    omega
  rw [List.take_succ_eq_append_getElem h]
  exact ⟨lo_snoc _ _ _ hne, lo_snoc _ _ _ hne, hi_snoc _ _ _ hne, hi_snoc _ _ _ hne⟩
theorem box_first {l : List Spot} (h : 0 < l.length) :
    lo (·.x) (l.take (0 + 1)) = mn (l[0]).x (l[0]).x ∧ lo (·.y) (l.take (0 + 1)) = mn (l[0]).y (l[0]).y ∧ hi (·.x) (l.take (0 + 1)) = mx (l[0]).x (l[0]).x ∧ hi (·.y) (l.take (0 + 1)) = mx (l[0]).y (l[0]).y := by
  rw [List.take_succ_eq_append_getElem h]
  simp [lo, hi, mn_self, mx_self]

/-- a block of four numbers -/
def F4 (w : World) (B : Nat) (a b c d : Int) : Prop :=
  (w.cell? ⟨B, 0, none⟩ = some (.int .i64 a) ∧ w.cell? ⟨B, 1, none⟩ = some (.int .i64 b) ∧ w.cell? ⟨B, 2, none⟩ = some (.int .i64 c) ∧ w.cell? ⟨B, 3, none⟩ = some (.int .i64 d)) ∧
  (w.frozen? ⟨B, 0, none⟩ = false ∧ w.frozen? ⟨B, 1, none⟩ = false ∧ w.frozen? ⟨B, 2, none⟩ = false ∧ w.frozen? ⟨B, 3, none⟩ = false)
theorem F4.set4 {w : World} {B : Nat} {a b c d : Int} (h : F4 w B a b c d) (a' b' c' d' : Int) :
    F4 ((((w.setCell ⟨B, 0, none⟩ (.int .i64 a')).setCell ⟨B, 1, none⟩ (.int .i64 b')).setCell ⟨B, 2, none⟩ (.int .i64 c')).setCell ⟨B, 3, none⟩ (.int .i64 d')) B a' b' c' d' := by
  obtain ⟨⟨d0, d1, d2, d3⟩, g0, g1, g2, g3⟩ := h
  refine ⟨⟨?_, ?_, ?_, ?_⟩, ?_, ?_, ?_, ?_⟩ <;> simp [go_sem, d0, d1, d2, d3, g0, g1, g2, g3]
theorem F4.alloc {w : World} {B : Nat} {a b c d : Int} (h : F4 w B a b c d) (hB : B < w.heap.size) (o : Obj) : F4 (w.alloc o) B a b c d := by
  obtain ⟨⟨d0, d1, d2, d3⟩, g0, g1, g2, g3⟩ := h
  have hh := Below.heap_alloc w o B hB
  exact ⟨⟨(cell_same hh _ _).trans d0, (cell_same hh _ _).trans d1, (cell_same hh _ _).trans d2, (cell_same hh _ _).trans d3⟩, (frozen_same hh _ _).trans g0, (frozen_same hh _ _).trans g1, (frozen_same hh _ _).trans g2, (frozen_same hh _ _).trans g3⟩

set_option maxHeartbeats 1000000 in
theorem box_ok (A : Option Addr) (n c : Nat) (l : List Spot) (w : World) (S : Nat → Prop) (hn63 : n ≤ 9223372036854775807) (hm : mayB l = true) (hl : SlV rSpot w S l (.slice A n c)) :
    Calls Tryz.prog 17 #[.slice A n c] w fun e w' => e = .returned (.tuple #[boxV l, .int .i64 0]) ∧ Below w.heap.size w w' := by
  have hnx := hl.n_eq
  have Hc : Hid (∀ o, Calls Tryz.prog 29 #[.slice A n c] (w.alloc o) fun e w' => e = .returned (.bool true) ∧ Below (w.alloc o).heap.size (w.alloc o) w') := fun o => by
    have := may_any A n c l (w.alloc o) S hn63 (hl.alloc o)
    rwa [hm] at this
  have Hnx := Lib.hid hnx; clear hnx hm
  have hl' := hl.more (S' := fun b => b < w.heap.size) fun b _ hlt => hlt
  clear hl
  go_enter Tryz.func17, Tryz.ntmps17
  go_wp2_with fail
  refine (Hc.out _).mono ?_
  rintro e w1 ⟨rfl, hb1⟩
  have hz1 : w.heap.size < w1.heap.size := by have := hb1.size; simp at this; omega
  have hB1 : Below w.heap.size w w1 := ((Below.refl _ _).alloc (Nat.le_refl _) _).trans (hb1.mono (by simp))
  have e0 := hb1.cell (p := ⟨w.heap.size, 0, none⟩) (by simp)
  have e1 := hb1.cell (p := ⟨w.heap.size, 1, none⟩) (by simp)
  have e2 := hb1.cell (p := ⟨w.heap.size, 2, none⟩) (by simp)
  have e3 := hb1.cell (p := ⟨w.heap.size, 3, none⟩) (by simp)
  have f0 := hb1.frozen (p := ⟨w.heap.size, 0, none⟩) (by simp)
  have f1 := hb1.frozen (p := ⟨w.heap.size, 1, none⟩) (by simp)
  have f2 := hb1.frozen (p := ⟨w.heap.size, 2, none⟩) (by simp)
  have f3 := hb1.frozen (p := ⟨w.heap.size, 3, none⟩) (by simp)
  simp [go_sem] at e0 e1 e2 e3 f0 f1 f2 f3
  clear hb1
  go_wp2_with fail
  go_loopw [13] (fun i wr => ∃ k : Nat, k ≤ n ∧ i = .int .i64 k ∧ F4 wr w1.heap.size (lo (·.x) (l.take k)) (lo (·.y) (l.take k)) (hi (·.x) (l.take k)) (hi (·.y) (l.take k)) ∧ Below w1.heap.size w1 wr ∧ w1.heap.size < wr.heap.size) (fun i _ => n - (intOf i).toNat)
  case atStart => exact ⟨0, Nat.zero_le _, rfl, by refine ⟨⟨?_, ?_, ?_, ?_⟩, ?_, ?_, ?_, ?_⟩ <;> simp [go_sem, lo, hi], (Below.refl _ _).alloc (Nat.le_refl _) _, by simp⟩
  case round =>
    obtain ⟨k, hk, rfl, hF, hbel, hzr⟩ := hrel
    have HF := Lib.hid hF
    obtain ⟨⟨d0, d1, d2, d3⟩, g0, g1, g2, g3⟩ := hF
    have hne : w1.heap.size ≠ wr.heap.size := by omega
    by_cases hlt : k < n
    · have hkx : k < l.length := by have := Hnx.out; omega
      have hlw := (hl'.below hB1 (fun b h => h)).below hbel (fun b hb => by have : b < w.heap.size := hb; omega)
      obtain ⟨b, o, cs, rfl, hSb, hb1, hsp, hcell⟩ := hlw.elem (List.getElem?_eq_getElem hkx)
      obtain ⟨p, rfl, hp, hx, hy⟩ := hsp
      obtain ⟨pA, pc, rfl, _, _⟩ := hp.val
      have hc0 := hcell 0 _ rfl
      have hc1 := hcell 1 _ rfl
      have hc2 := hcell 2 _ rfl
      simp only [rSpot, Nat.add_zero] at hc0 hc1 hc2
      clear hp hx hy hcell hlw
      have hkn : (k : Int) < (n : Int) := by omega
      by_cases hk0 : k = 0
      · have hk0' : ((k : Int) == 0) = true := by simp [hk0]
        have hst : Hid (lo (·.x) (l.take (k + 1)) = mn (l[k]).x (l[k]).x ∧ lo (·.y) (l.take (k + 1)) = mn (l[k]).y (l[k]).y ∧ hi (·.x) (l.take (k + 1)) = mx (l[k]).x (l[k]).x ∧ hi (·.y) (l.take (k + 1)) = mx (l[k]).y (l[k]).y) := by
          subst hk0; exact box_first hkx
        clear hk0
        generalize (l[k]).path.length = pn at *
        generalize (l[k]).x = x at *
        generalize (l[k]).y = y at *
        go_wp2_with fail
        go_roundw
        case rel =>
          refine ⟨k + 1, by omega, by go_num, by rw [hst.out.1, hst.out.2.1, hst.out.2.2.1, hst.out.2.2.2, mn_self, mn_self, mx_self, mx_self]; exact ((HF.out.set4 _ _ _ _).set4 _ _ _ _).alloc (by simpa [World.setCell] using hzr) _, ?_, by simp [World.setCell]; omega⟩
          exact Below.alloc ((((((((hbel.setCell (by simp) _).setCell (by simp) _).setCell (by simp) _).setCell (by simp) _).setCell (by simp) _).setCell (by simp) _).setCell (by simp) _).setCell (by simp) _) (by simp [World.setCell]; omega) _
        case measure => simp [intOf]; omega
      · have hk0' : ((k : Int) == 0) = false := by simp [hk0]
        have hst : Hid _ := box_step hkx hk0
        clear hk0
        generalize (l[k]).path.length = pn at *
        generalize (l[k]).x = x at *
        generalize (l[k]).y = y at *
        go_wp2_with fail
        go_roundw
        case rel =>
          refine ⟨k + 1, by omega, by go_num, by rw [hst.out.1, hst.out.2.1, hst.out.2.2.1, hst.out.2.2.2]; exact (HF.out.set4 _ _ _ _).alloc (by simpa [World.setCell] using hzr) _, ?_, by simp [World.setCell]; omega⟩
          exact Below.alloc ((((hbel.setCell (by simp) _).setCell (by simp) _).setCell (by simp) _).setCell (by simp) _) (by simp [World.setCell]; omega) _
        case measure => simp [intOf]; omega
    · have hkn : k = l.length := by have := Hnx.out; omega
      have Hv : Hid (l.take k = l) := by unfold Hid; rw [hkn, List.take_length]
      rw [Hv.out] at d0 d1 d2 d3
      have E0 := below_cell hbel e0 hz1
      have E1 := below_cell hbel e1 hz1
      have E2 := below_cell hbel e2 hz1
      have E3 := below_cell hbel e3 hz1
      have F0 := (hbel.frozen (p := ⟨w.heap.size, 0, none⟩) hz1).trans f0
      have F1 := (hbel.frozen (p := ⟨w.heap.size, 1, none⟩) hz1).trans f1
      have F2 := (hbel.frozen (p := ⟨w.heap.size, 2, none⟩) hz1).trans f2
      have F3 := (hbel.frozen (p := ⟨w.heap.size, 3, none⟩) hz1).trans f3
      have hB : Below w.heap.size w wr := hB1.trans (hbel.mono hB1.size)
      clear hkn e0 e1 e2 e3 f0 f1 f2 f3 hbel hB1
      go_wp2
      refine bodyPost_ret (v := .tuple #[boxV l, .int .i64 0]) (by simp [results, Tryz.results17, go_sem, boxV, E0, E1, E2, E3]) rfl ⟨rfl, ?_⟩
      exact (((hB.setCell (by simp) _).setCell (by simp) _).setCell (by simp) _).setCell (by simp) _

theorem box_no (A : Option Addr) (n c : Nat) (l : List Spot) (w : World) (S : Nat → Prop) (hn63 : n ≤ 9223372036854775807) (hm : mayB l = false) (hl : SlV rSpot w S l (.slice A n c)) :
    Calls Tryz.prog 17 #[.slice A n c] w fun e w' => e = .returned (.tuple #[.agg #[.int .i64 0, .int .i64 0, .int .i64 0, .int .i64 0], .int .i64 1]) ∧ Below w.heap.size w w' := by
  have Hc : Hid (∀ o, Calls Tryz.prog 29 #[.slice A n c] (w.alloc o) fun e w' => e = .returned (.bool false) ∧ Below (w.alloc o).heap.size (w.alloc o) w') := fun o => by
    have := may_any A n c l (w.alloc o) S hn63 (hl.alloc o)
    rwa [hm] at this
  clear hl hm
  go_enter Tryz.func17, Tryz.ntmps17
  go_wp2_with fail
  refine (Hc.out _).mono ?_
  rintro e w1 ⟨rfl, hb1⟩
  have hz1 : w.heap.size < w1.heap.size := by have := hb1.size; simp at this; omega
  have hB1 : Below w.heap.size w w1 := ((Below.refl _ _).alloc (Nat.le_refl _) _).trans (hb1.mono (by simp))
  have e0 := hb1.cell (p := ⟨w.heap.size, 0, none⟩) (by simp)
  have e1 := hb1.cell (p := ⟨w.heap.size, 1, none⟩) (by simp)
  have e2 := hb1.cell (p := ⟨w.heap.size, 2, none⟩) (by simp)
  have e3 := hb1.cell (p := ⟨w.heap.size, 3, none⟩) (by simp)
  have f0 := hb1.frozen (p := ⟨w.heap.size, 0, none⟩) (by simp)
  have f1 := hb1.frozen (p := ⟨w.heap.size, 1, none⟩) (by simp)
  have f2 := hb1.frozen (p := ⟨w.heap.size, 2, none⟩) (by simp)
  have f3 := hb1.frozen (p := ⟨w.heap.size, 3, none⟩) (by simp)
  simp [go_sem] at e0 e1 e2 e3 f0 f1 f2 f3
  clear hb1
  go_wp2
  refine bodyPost_ret (v := .tuple #[.agg #[.int .i64 0, .int .i64 0, .int .i64 0, .int .i64 0], .int .i64 1]) (by simp [results, Tryz.results17, go_sem, e0, e1, e2, e3]) rfl ⟨rfl, ?_⟩
  exact (((hB1.setCell (by simp) _).setCell (by simp) _).setCell (by simp) _).setCell (by simp) _
end Go.Proofs.YtkpbnbnfgadkcaaGreatDoor
