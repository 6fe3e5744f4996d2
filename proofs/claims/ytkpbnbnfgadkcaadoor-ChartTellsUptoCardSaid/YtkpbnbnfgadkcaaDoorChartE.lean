/-
  The program's Twist, Turn and Flip.
-/
import Derived.Test.YtkpbnbnfgadkcaaDoorChartD
namespace Go.Proofs.YtkpbnbnfgadkcaaDoor
open Go.RowKit
set_option linter.unusedVariables false
set_option linter.unusedSimpArgs false

attribute [local go_sem] run_store_float run_store_complex

theorem enters_twist1 : Enters Tryd.prog 36 := enters_of Tryd.func36 (by kernel_rfl) rfl
theorem enters_turn1 : Enters Tryd.prog 38 := enters_of Tryd.func38 (by kernel_rfl) rfl
def twistF (a b : Int) (s : Spot) : Spot := ⟨s.path, s.x * a - s.y * b, s.x * b + s.y * a⟩
def smallB (a b : Int) : Bool := decide (-1024 ≤ a) && decide (a ≤ 1024) && decide (-1024 ≤ b) && decide (b ≤ 1024)
def twistOk (l : List Spot) (a b : Int) : Bool := mayB l && smallB a b

theorem mayB_far {l : List Spot} (h : mayB l = true) : l.length ≤ 257 ∧ ∀ s ∈ l, s.x.natAbs ≤ 1099511627776 ∧ s.y.natAbs ≤ 1099511627776 := by
  unfold mayB at h
  rw [Bool.and_eq_true, decide_eq_true_eq, Bool.not_eq_true', List.any_eq_false] at h
  refine ⟨h.1, fun s hs => ?_⟩
  have := h.2 s hs
  simp [farB] at this
  omega

def twistR (l : List Spot) (a b : Int) : Option (List Spot) := if twistOk l a b then some (l.map (twistF a b)) else none

/-- the error beside a drawing -/
def codeOf {α : Type} (r : Option α) : Int := if r.isSome then 0 else 1

/-- what a call that answers a drawing and an error leaves -/
def Drawn (w : World) (res : Option (List Spot)) (e : Ending) (w' : World) : Prop :=
  ∃ v, e = .returned (.tuple #[v, .int .i64 (codeOf res)]) ∧ SlV rSpot w' (fun _ => True) (res.getD []) v ∧ Below w.heap.size w w'

theorem mul_far {x y u v : Int} (hx : x.natAbs ≤ 1099511627776) (hy : y.natAbs ≤ 1099511627776) (hu : u.natAbs ≤ 1024) (hv : v.natAbs ≤ 1024) :
    (x * u - y * v).natAbs < 2 ^ 53 ∧ (x * v + y * u).natAbs < 2 ^ 53 := by
  have h1 : (x * u).natAbs < 1125899906842625 := natAbs_mul_lt hx hu (by omega)
  have h2 : (y * v).natAbs < 1125899906842625 := natAbs_mul_lt hy hv (by omega)
  have h4 : (x * v).natAbs < 1125899906842625 := natAbs_mul_lt hx hv (by omega)
  have h5 : (y * u).natAbs < 1125899906842625 := natAbs_mul_lt hy hu (by omega)
  rw [show (2 : Nat) ^ 53 = 9007199254740992 from by decide]
  generalize x * u = A at *
  generalize y * v = B at *
  generalize x * v = C at *
  generalize y * u = D at *
  omega

/-- each, with a closure that multiplies by the number in the block it captured -/
theorem each_mul (g : FuncId) (hg : Enters Tryd.prog g) (u v : Int) (B : Nat) (A : Option Addr) (n cp : Nat) (l : List Spot) (w : World) (S : Nat → Prop)
    (hon : OnPoints w g #[.pointer (some ⟨B, 0, none⟩)] (fun x y => (x * u - y * v, x * v + y * u)))
    (hu : u.natAbs ≤ 1024) (hv : v.natAbs ≤ 1024) (hreach : l.length * 40 ≤ 140737488351232) (hpath : ∀ s ∈ l, s.path.length * 16 ≤ 140737488351232) (hl : SlV rSpot w S l (.slice A n cp))
    (hfar : ∀ s ∈ l, s.x.natAbs ≤ 1099511627776 ∧ s.y.natAbs ≤ 1099511627776) :
    Calls Tryd.prog 35 #[.slice A n cp, .func (.func g) #[] #[.pointer (some ⟨B, 0, none⟩)]] w fun e w' => ∃ r, e = .returned r ∧ SlV rSpot w' (fun b => w.heap.size ≤ b) (l.map (twistF u v)) r ∧ Below w.heap.size w w' :=
  each_any g _ _ A n cp l w S hreach hpath hl hon hg fun s hs => by
    obtain ⟨h1, h2⟩ := hfar s hs
    obtain ⟨h3, h4⟩ := mul_far h1 h2 hu hv
    exact ⟨h1, h2, h3, h4⟩

theorem flt_small {a : Int} (h : a.natAbs ≤ 1024) : Flt (floatOfInt .f64 a) a := flt_ofInt (Nat.lt_of_le_of_lt h (by decide))

def max4 (a b c d : Int) : Int := if d > (if c > (if b > a then b else a) then c else (if b > a then b else a)) then d else (if c > (if b > a then b else a) then c else (if b > a then b else a))
theorem run_max4 {P : Program} (ts : Array TypeId) (t : TypeId) (a b c d : Int) (w : World) : (Builtin.max_ ts t #[.int .i64 a, .int .i64 b, .int .i64 c, .int .i64 d]).run P w = .ok (.int .i64 (max4 a b c d)) w := by
  simp [Builtin.max_, Builtin.max2, max4]
theorem max4_ge (a b c d : Int) : a ≤ max4 a b c d ∧ b ≤ max4 a b c d ∧ c ≤ max4 a b c d ∧ d ≤ max4 a b c d := by
  unfold max4
  refine ⟨?_, ?_, ?_, ?_⟩ <;> (repeat' split) <;> omega
theorem max4_le {a b c d m : Int} (h1 : a ≤ m) (h2 : b ≤ m) (h3 : c ≤ m) (h4 : d ≤ m) : max4 a b c d ≤ m := by
  unfold max4
  (repeat' split) <;> assumption

theorem chTwist_any (A : Option Addr) (n c : Nat) (a b : Int) (l : List Spot) (w : World) (S : Nat → Prop) (hreach : l.length * 40 ≤ 140737488351232)
    (hpath : ∀ s ∈ l, s.path.length * 16 ≤ 140737488351232) (ha : I64 a) (hb : I64 b)
    (hl : SlV rSpot w S l (.slice A n c)) :
    Calls Tryd.prog 25 #[.slice A n c, .int .i64 a, .int .i64 b] w (Drawn w (twistR l a b)) := by
  have hnx := hl.n_eq
  have hn63 : n ≤ 9223372036854775807 := by omega
  have Hc := Lib.hid (may_any A n c l w S hn63 hl)
  have Hnx := Lib.hid hnx; clear hnx
  unfold I64 at ha hb
  obtain ⟨ha1, ha2⟩ := ha
  obtain ⟨hb1, hb2⟩ := hb
  by_cases hm : mayB l = true
  · rw [hm] at Hc
    by_cases h1 : -1024 ≤ a ∧ a ≤ 1024 ∧ -1024 ≤ b ∧ b ≤ 1024
    · obtain ⟨h2, h3, h4, h5⟩ := h1
      have Hr : Hid (twistR l a b = some (l.map (twistF a b))) := by simp [Hid, twistR, twistOk, smallB, hm, h2, h3, h4, h5]
      have hM : max4 a (-a) b (-b) ≤ 1024 := max4_le (by omega) (by omega) (by omega) (by omega)
      have hmx := fun ts t x y z u w => run_max4 (P := Tryd.prog) ts t x y z u w
      rcases Int.lt_or_le b a with hba | hba
      all_goals
        have hfar := (mayB_far hm).2
        have Hfar := Lib.hid hfar; clear hfar
        clear hm
        rw [Hr.out]
        have e53 : (2 : Nat) ^ 53 = 9007199254740992 := by decide
        go_enter Tryd.func25, Tryd.ntmps25
        go_wp2_with fail
        refine Hc.out.mono ?_
        rintro e w1 ⟨rfl, hbl⟩
        have hlv := hl.belowSize hbl
        have Hlv := Lib.hid hlv; clear hlv hl
        go_wp2_with fail
        refine (each_mul _ enters_twist1 a b _ A n c l _ S (twist1_on _ _ _ _ _ a b (by simp) (flt_small (by omega)) (flt_small (by omega)) (by omega) (by omega)) (by omega) (by omega) hreach hpath (Hlv.out.alloc _) Hfar.out).mono ?_
        rintro e w2 ⟨r, rfl, hr, hb3⟩
        go_wp2_with fail
        go_ret2
        have hb4 : Below w.heap.size w w2 := (hbl.alloc hbl.size _).trans (hb3.mono (by simp; exact Nat.le_succ_of_le hbl.size))
        exact ⟨_, rfl, hr.more (fun _ _ _ => trivial), hb4⟩
    · have Hr : Hid (twistR l a b = none) := by
        have : smallB a b = false := by simp [smallB]; omega
        simp [Hid, twistR, twistOk, this]
      have hmx := fun ts t x y z u w => run_max4 (P := Tryd.prog) ts t x y z u w
      clear hm
      rw [Hr.out]
      have Hn1 := Lib.hid h1; clear h1
      go_enter Tryd.func25, Tryd.ntmps25
      go_wp2_with fail
      refine Hc.out.mono ?_
      rintro e w1 ⟨rfl, hbl⟩
      go_wp2_with fail
      all_goals first
        | (go_ret2
           exact ⟨_, rfl, SlV.nil_ _ _ _, hbl⟩)
        | (exfalso
           have hx : max4 a (wrap64 (-a)) b (wrap64 (-b)) ≤ 1024 ∧ -1024 ≤ (if b < a then b else a) := by assumption
           have hg := max4_ge a (wrap64 (-a)) b (wrap64 (-b))
           have h2 := hx.2
           refine Hn1.out ⟨?_, by omega, ?_, by omega⟩ <;> (split at h2 <;> omega))
  · rw [Bool.not_eq_true] at hm
    rw [hm] at Hc
    have Hr : Hid (twistR l a b = none) := by simp [Hid, twistR, twistOk, hm]
    clear hm
    rw [Hr.out]
    go_enter Tryd.func25, Tryd.ntmps25
    go_wp2_with fail
    refine Hc.out.mono ?_
    rintro e w1 ⟨rfl, hbl⟩
    go_wp2
    go_ret2
    exact ⟨_, rfl, SlV.nil_ _ _ _, hbl⟩

/-- turned by q quarters -/
def turnF (q : Int) : Spot → Spot := twistF (quart (quarters q).toNat).1 (quart (quarters q).toNat).2
def turnR (l : List Spot) (q : Int) : Option (List Spot) := if mayB l then some (l.map (turnF q)) else none
def flipF (s : Spot) : Spot := ⟨s.path, s.x, -s.y⟩
def flipR (l : List Spot) : Option (List Spot) := if mayB l then some (l.map flipF) else none

set_option maxHeartbeats 400000 in
theorem chTurn_any (A : Option Addr) (n c : Nat) (q : Int) (l : List Spot) (w : World) (S : Nat → Prop) (hreach : l.length * 40 ≤ 140737488351232)
    (hpath : ∀ s ∈ l, s.path.length * 16 ≤ 140737488351232) (hq : I64 q) (hl : SlV rSpot w S l (.slice A n c)) :
    Calls Tryd.prog 26 #[.slice A n c, .int .i64 q] w (Drawn w (turnR l q)) := by
  have hnx := hl.n_eq
  have hn63 : n ≤ 9223372036854775807 := by omega
  have Hc := Lib.hid (may_any A n c l w S hn63 hl)
  have Hnx := Lib.hid hnx; clear hnx
  have Hq := Lib.hid hq; clear hq
  by_cases hm : mayB l = true
  · rw [hm] at Hc
    have Hr : Hid (turnR l q = some (l.map (turnF q))) := by simp [Hid, turnR, hm]
    have hfar := (mayB_far hm).2
    have Hfar := Lib.hid hfar; clear hfar
    clear hm
    rw [Hr.out]
    obtain ⟨s1, s2⟩ := quart_small (quarters q).toNat
    unfold turnF
    generalize hu : (quart (quarters q).toNat).1 = u at *
    generalize hv : (quart (quarters q).toNat).2 = v at *
    have Ht : Hid (∀ W, Calls Tryd.prog 37 #[.int .i64 q] W fun e w' => ∃ re im, e = .returned (.complex .f64 re im) ∧ Flt re u ∧ Flt im v ∧ W = w') := fun W => by
      rw [← hu, ← hv]; exact turn_any q Hq.out W
    have Hu := Lib.hid hu; clear hu
    have Hv := Lib.hid hv; clear hv
    go_enter Tryd.func26, Tryd.ntmps26
    go_wp2_with fail
    refine Hc.out.mono ?_
    rintro e w1 ⟨rfl, hbl⟩
    have hlv := hl.belowSize hbl
    have Hlv := Lib.hid hlv; clear hlv hl
    go_wp2_with fail
    refine (Ht.out _).mono ?_
    rintro e w2 ⟨re, im, rfl, hre, him, rfl⟩
    have Hre := Lib.hid hre; clear hre
    have Him := Lib.hid him; clear him
    go_wp2_with fail
    refine (each_mul _ enters_turn1 u v _ A n c l _ S (turn1_on _ _ _ _ _ u v (by simp) Hre.out Him.out (by omega) (by omega)) (by omega) (by omega) hreach hpath (Hlv.out.alloc _) Hfar.out).mono ?_
    rintro e w2 ⟨r, rfl, hr, hb3⟩
    go_wp2_with fail
    go_ret2
    have hb4 : Below w.heap.size w w2 := (hbl.alloc hbl.size _).trans (hb3.mono (by simp; exact Nat.le_succ_of_le hbl.size))
    exact ⟨_, rfl, hr.more (fun _ _ _ => trivial), hb4⟩
  · rw [Bool.not_eq_true] at hm
    rw [hm] at Hc
    have Hr : Hid (turnR l q = none) := by simp [Hid, turnR, hm]
    clear hm
    rw [Hr.out]
    go_enter Tryd.func26, Tryd.ntmps26
    go_wp2_with fail
    refine Hc.out.mono ?_
    rintro e w1 ⟨rfl, hbl⟩
    go_wp2
    go_ret2
    exact ⟨_, rfl, SlV.nil_ _ _ _, hbl⟩

end Go.Proofs.YtkpbnbnfgadkcaaDoor
