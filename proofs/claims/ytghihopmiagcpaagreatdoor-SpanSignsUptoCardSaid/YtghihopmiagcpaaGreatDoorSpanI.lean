/-
  A version in a range: span.In and the document's, walked.
-/
import Derived.Test.YtghihopmiagcpaaGreatDoorSParse
set_option autoImplicit false
set_option relaxedAutoImplicit false
set_option linter.unusedVariables false
set_option linter.unusedSimpArgs false
namespace Go.Proofs.YtghihopmiagcpaaGreatDoor
open Go.Rows Go.RowKit Go.Shelf Go.Sort

/-- the first that is not nought -/
def orF (x y : Int) : Int := if x ≠ 0 then x else y
set_option maxHeartbeats 800000 in
theorem cmpOr3_any (b o c : Nat) (x y z : Int) (w : World) (hx : w.cell? ⟨b, o, none⟩ = some (.int .i64 x)) (hy : w.cell? ⟨b, o + 1, none⟩ = some (.int .i64 y)) (hz : w.cell? ⟨b, o + 2, none⟩ = some (.int .i64 z)) :
    Calls Tryz.prog 61 #[.slice (some ⟨b, o, none⟩) 3 c] w fun e w' => e = .returned (.int .i64 (orF x (orF y z))) ∧ w' = w := by
  have hx0 : (x != 0) = decide (x ≠ 0) := by by_cases h : x = 0 <;> simp [h]
  have hy0 : (y != 0) = decide (y ≠ 0) := by by_cases h : y = 0 <;> simp [h]
  have hz0 : (z != 0) = decide (z ≠ 0) := by by_cases h : z = 0 <;> simp [h]
  have HX : Hid (x ≠ 0 → orF x (orF y z) = x) := fun h => by unfold orF; rw [if_pos h]
  have HY : Hid (x = 0 → y ≠ 0 → orF x (orF y z) = y) := fun h g => by unfold orF; rw [if_neg (by simp [h]), if_pos g]
  have HZ : Hid (x = 0 → y = 0 → orF x (orF y z) = z) := fun h g => by unfold orF; rw [if_neg (by simp [h]), if_neg (by simp [g])]
  generalize orF x (orF y z) = R at *
  go_enter Tryz.func61, Tryz.ntmps61
  go_wp2_with fail
  go_loopw [8] (fun i wr => (i = .int .i64 0 ∨ (i = .int .i64 1 ∧ Hid (x = 0)) ∨ (i = .int .i64 2 ∧ Hid (x = 0 ∧ y = 0)) ∨ (i = .int .i64 3 ∧ Hid (x = 0 ∧ y = 0 ∧ z = 0))) ∧ wr = w) (fun i _ => 3 - (intOf i).toNat)
  case atStart => exact ⟨.inl rfl, rfl⟩
  case round =>
    obtain ⟨hi, rfl⟩ := hrel
    rcases hi with rfl | ⟨rfl, H⟩ | ⟨rfl, H⟩ | ⟨rfl, H⟩
    · by_cases h : x = 0
      · have hb : (x != 0) = false := by rw [hx0]; simp [h]
        have H := Lib.hid h
        clear hx0 hy0 hz0 h
        go_wp2_with fail
        go_roundw
        case rel => exact ⟨.inr (.inl ⟨rfl, H⟩), trivial⟩
        case measure => simp [intOf]
      · have hb : (x != 0) = true := by rw [hx0]; simp [h]
        have H := Lib.hid (HX.out h)
        clear hx0 hy0 hz0 h
        go_wp2_with fail
        go_ret
        exact ⟨ret_int H.out.symm, rfl⟩
    · by_cases h : y = 0
      · have hb : (y != 0) = false := by rw [hy0]; simp [h]
        have H2 : Hid (x = 0 ∧ y = 0) := ⟨H.out, h⟩
        clear hx0 hy0 hz0 h
        go_wp2_with fail
        go_roundw
        case rel => exact ⟨.inr (.inr (.inl ⟨rfl, H2⟩)), trivial⟩
        case measure => simp [intOf]
      · have hb : (y != 0) = true := by rw [hy0]; simp [h]
        have H2 := Lib.hid (HY.out H.out h)
        clear hx0 hy0 hz0 h
        go_wp2_with fail
        go_ret
        exact ⟨ret_int H2.out.symm, rfl⟩
    · have H3 := Lib.hid (HZ.out H.out.1 H.out.2)
      by_cases h : z = 0
      · have hb : (z != 0) = false := by rw [hz0]; simp [h]
        have H2 : Hid (x = 0 ∧ y = 0 ∧ z = 0) := ⟨H.out.1, H.out.2, h⟩
        clear hx0 hy0 hz0 h
        go_wp2_with fail
        go_roundw
        case rel => exact ⟨.inr (.inr (.inr ⟨rfl, H2⟩)), trivial⟩
        case measure => simp [intOf]
      · have hb : (z != 0) = true := by rw [hz0]; simp [h]
        clear hx0 hy0 hz0 h
        go_wp2_with fail
        go_ret
        exact ⟨ret_int H3.out.symm, rfl⟩
    · have H3 : Hid (R = 0) := (HZ.out H.out.1 H.out.2.1).trans H.out.2.2
      go_wp2_with fail
      go_ret
      exact ⟨ret_int H3.out.symm, rfl⟩

def cmpV (a b : Ver) : Int := orF (Lib.compareInt a.major b.major) (orF (Lib.compareInt a.minor b.minor) (Lib.compareInt a.patch b.patch))
theorem cmpV_le {a b : Ver} (ha : a.ok = true) (hb : b.ok = true) : cmpV a b ≤ 0 ↔ a.rank ≤ b.rank := by
  rw [a.rank_ok ha, b.rank_ok hb]
  obtain ⟨⟨a0, a1⟩, ⟨b0, b1⟩, c0, c1⟩ := verB_iff.1 (show verB a.major a.minor a.patch = true from ha)
  obtain ⟨⟨p0, p1⟩, ⟨q0, q1⟩, r0, r1⟩ := verB_iff.1 (show verB b.major b.minor b.patch = true from hb)
  unfold cmpV orF Lib.compareInt rankI
  repeat' split
  all_goals omega
def cellsV (v : Ver) : List Value := [.int .i64 v.major, .int .i64 v.minor, .int .i64 v.patch]

set_option maxHeartbeats 1600000 in
theorem versCompare_any (a b : Ver) (w : World) :
    Calls Tryz.prog 38 #[verV a, verV b] w fun e w' => e = .returned (.int .i64 (cmpV a b)) ∧ Below w.heap.size w w' := by
  obtain ⟨a1, a2, a3⟩ := a
  obtain ⟨b1, b2, b3⟩ := b
  unfold verV cmpV
  simp only
  have H1 := Lib.hid (fun W => Tryz.cmp_Compare_int a1 b1 W)
  have H2 := Lib.hid (fun W => Tryz.cmp_Compare_int a2 b2 W)
  have H3 := Lib.hid (fun W => Tryz.cmp_Compare_int a3 b3 W)
  generalize Lib.compareInt a1 b1 = x1 at *
  generalize Lib.compareInt a2 b2 = x2 at *
  generalize Lib.compareInt a3 b3 = x3 at *
  go_enter Tryz.func38, Tryz.ntmps38
  go_wp2_with fail
  obtain ⟨w0, hw0⟩ : ∃ w0, w0 = (w.alloc (.cells #[.int .i64 a1, .int .i64 a2, .int .i64 a3] 24)).alloc (.cells #[.int .i64 b1, .int .i64 b2, .int .i64 b3] 24) := ⟨_, rfl⟩
  have hb0 : Below w.heap.size w w0 := by rw [hw0]; exact bal (bal (Below.refl _ _) _) _
  have c0 : w0.cell? ⟨w.heap.size, 0, none⟩ = some (.int .i64 a1) := by rw [hw0]; simp [go_sem]
  have c1 : w0.cell? ⟨w.heap.size, 1, none⟩ = some (.int .i64 a2) := by rw [hw0]; simp [go_sem]
  have c2 : w0.cell? ⟨w.heap.size, 2, none⟩ = some (.int .i64 a3) := by rw [hw0]; simp [go_sem]
  have d0 : w0.cell? ⟨w.heap.size + 1, 0, none⟩ = some (.int .i64 b1) := by rw [hw0]; simp [go_sem]
  have d1 : w0.cell? ⟨w.heap.size + 1, 1, none⟩ = some (.int .i64 b2) := by rw [hw0]; simp [go_sem]
  have d2 : w0.cell? ⟨w.heap.size + 1, 2, none⟩ = some (.int .i64 b3) := by rw [hw0]; simp [go_sem]
  rw [← hw0]
  clear hw0
  go_region_held3 (fun w' => w'.cell? ⟨w.heap.size, 0, none⟩ = some (.int .i64 a1) ∧ w'.cell? ⟨w.heap.size, 1, none⟩ = some (.int .i64 a2) ∧ w'.cell? ⟨w.heap.size, 2, none⟩ = some (.int .i64 a3) ∧ w'.cell? ⟨w.heap.size + 1, 0, none⟩ = some (.int .i64 b1) ∧ w'.cell? ⟨w.heap.size + 1, 1, none⟩ = some (.int .i64 b2) ∧ w'.cell? ⟨w.heap.size + 1, 2, none⟩ = some (.int .i64 b3) ∧ Below w.heap.size w w')
    (first
      | exact ⟨by go_keep, by go_keep, by go_keep, by go_keep, by go_keep, by go_keep, by first | exact hb0.drew | exact hb0⟩
      | (go_split_ands; exact ⟨by go_keep, by go_keep, by go_keep, by go_keep, by go_keep, by go_keep, by first | assumption | exact Below.drew (by assumption) | exact bal (by assumption) _⟩))
    (first
      | (go_at_call 62; (first | (with_reducible refine (H1.out _).mono ?_) | (with_reducible refine (H2.out _).mono ?_) | (with_reducible refine (H3.out _).mono ?_)); rintro e w' ⟨rfl, rfl⟩)
      | (go_at_call 61; refine (cmpOr3_any _ 0 _ x1 x2 x3 _ (by simp [go_sem]) (by simp [go_sem]) (by simp [go_sem])).mono ?_; rintro e w' ⟨rfl, rfl⟩))
  all_goals
    go_wp2_with fail
    go_ret
    exact ⟨rfl, by first | exact (bal hb0 _).drew | exact bal hb0.drew _⟩

def in1B (v : Ver) (s : Spn) : Bool := decide (cmpV s.lo v ≤ 0) && decide (cmpV v s.hi ≤ 0)
theorem enters_in1 : Enters Tryz.prog 37 := enters_of Tryz.func37 (by kernel_rfl) rfl
set_option maxHeartbeats 1600000 in
theorem in1_any (s : Spn) (v : Ver) (pb : Nat) (w : World) (hc : ∀ j u, (cellsV v)[j]? = some u → w.cell? ⟨pb, j, none⟩ = some u) :
    Calls Tryz.prog 37 #[.agg #[.int .i64 s.lo.major, .int .i64 s.lo.minor, .int .i64 s.lo.patch, .int .i64 s.hi.major, .int .i64 s.hi.minor, .int .i64 s.hi.patch], .pointer (some ⟨pb, 0, none⟩)] w fun e w' => e = .returned (.bool (in1B v s)) ∧ Below w.heap.size w w' := by
  have H1 := Lib.hid (fun W => versCompare_any s.lo v W)
  have H2 := Lib.hid (fun W => versCompare_any v s.hi W)
  have HR : Hid (in1B v s = (decide (cmpV s.lo v ≤ 0) && decide (cmpV v s.hi ≤ 0))) := rfl
  have d0 := hc 0 _ rfl
  have d1 := hc 1 _ rfl
  have d2 := hc 2 _ rfl
  have hlt : pb < w.heap.size := World.block_lt_of_cell? w _ d0
  clear hc
  unfold verV at H1 H2
  generalize in1B v s = R at *
  generalize cmpV s.lo v = x at *
  generalize cmpV v s.hi = y at *
  obtain ⟨⟨l1, l2, l3⟩, ⟨h1, h2, h3⟩⟩ := s
  obtain ⟨v1, v2, v3⟩ := v
  simp only at H1 H2 d0 d1 d2 ⊢
  go_enter Tryz.func37, Tryz.ntmps37
  obtain ⟨w0, hw0⟩ : ∃ w0, w0 = w.alloc (.cells #[.int .i64 l1, .int .i64 l2, .int .i64 l3, .int .i64 h1, .int .i64 h2, .int .i64 h3] 47) := ⟨_, rfl⟩
  have hb0 : Below w.heap.size w w0 := by rw [hw0]; exact bal (Below.refl _ _) _
  have e0 : w0.cell? ⟨w.heap.size, 0, none⟩ = some (.int .i64 l1) := by rw [hw0]; simp [go_sem]
  have e1 : w0.cell? ⟨w.heap.size, 1, none⟩ = some (.int .i64 l2) := by rw [hw0]; simp [go_sem]
  have e2 : w0.cell? ⟨w.heap.size, 2, none⟩ = some (.int .i64 l3) := by rw [hw0]; simp [go_sem]
  have e3 : w0.cell? ⟨w.heap.size, 3, none⟩ = some (.int .i64 h1) := by rw [hw0]; simp [go_sem]
  have e4 : w0.cell? ⟨w.heap.size, 4, none⟩ = some (.int .i64 h2) := by rw [hw0]; simp [go_sem]
  have e5 : w0.cell? ⟨w.heap.size, 5, none⟩ = some (.int .i64 h3) := by rw [hw0]; simp [go_sem]
  have g0 := below_cell hb0 d0 hlt
  have g1 := below_cell hb0 d1 hlt
  have g2 := below_cell hb0 d2 hlt
  have hlt0 : w.heap.size < w0.heap.size := by rw [hw0]; simp
  have hne : pb ≠ w.heap.size := by omega
  have Hw0 := Lib.hid hw0
  clear hw0
  go_wp2_with fail
  rw [← Hw0.out]
  refine (H1.out _).mono ?_
  rintro e w1 ⟨rfl, hb1⟩
  have f0 := below_cell hb1 e3 hlt0
  have f1 := below_cell hb1 e4 hlt0
  have f2 := below_cell hb1 e5 hlt0
  have k0 := below_cell hb1 g0 (cell_lt g0)
  have k1 := below_cell hb1 g1 (cell_lt g1)
  have k2 := below_cell hb1 g2 (cell_lt g2)
  have HB1 := Lib.hid (bot hb0 hb1)
  clear hb1 hb0 e0 e1 e2 e3 e4 e5 g0 g1 g2 d0 d1 d2 Hw0
  by_cases hx : x ≤ 0
  · go_wp2_with fail
    refine (H2.out _).mono ?_
    rintro e w2 ⟨rfl, hb2⟩
    by_cases hy : y ≤ 0
    · have He : Hid (R = true) := by unfold Hid; rw [HR.out]; simp [hx, hy]
      go_wp2_with fail
      go_ret
      exact ⟨ret_bool He.out.symm, bot HB1.out hb2⟩
    · have He : Hid (R = false) := by unfold Hid; rw [HR.out]; simp [hx, hy]
      go_wp2_with fail
      go_ret
      exact ⟨ret_bool (by rw [He.out]; exact decide_eq_false (by omega)), bot HB1.out hb2⟩
  · have He : Hid (R = false) := by unfold Hid; rw [HR.out]; simp [hx]
    go_wp2_with fail
    go_ret
    exact ⟨ret_bool He.out.symm, HB1.out⟩

def fstGo (q : Spn → Bool) : List Spn → Nat → Int
  | [], _ => -1
  | d :: t, k => bif q d then (k : Int) else fstGo q t (k + 1)
theorem fstGo_at (q : Spn → Bool) {t : List Spn} {k : Nat} (h : k < t.length) : fstGo q (t.drop k) k = bif q t[k] then (k : Int) else fstGo q (t.drop (k + 1)) (k + 1) := by
  rw [List.drop_eq_getElem_cons h, fstGo]
theorem fstGo_any (q : Spn → Bool) : ∀ (t : List Spn) (k : Nat), (fstGo q t k = -1 ∧ t.any q = false) ∨ (0 ≤ fstGo q t k ∧ t.any q = true) := by
  intro t
  induction t with
  | nil => intro k; exact .inl ⟨rfl, rfl⟩
  | cons d l ih =>
    intro k
    rw [fstGo, List.any_cons]
    cases q d
    · exact ih (k + 1)
    · exact .inr ⟨Int.natCast_nonneg k, rfl⟩

set_option maxHeartbeats 800000 in
theorem indexSpn_any (v : Ver) (pb : Nat) (A : Option Addr) (n c : Nat) (xs : List Spn) (w : World) (S : Nat → Prop) (hx : SlV rSpn w S xs (.slice A n c)) (hc : ∀ j u, (cellsV v)[j]? = some u → w.cell? ⟨pb, j, none⟩ = some u) :
    Calls Tryz.prog 60 #[.slice A n c, .func (.func 37) #[] #[.pointer (some ⟨pb, 0, none⟩)]] w fun e w' => e = .returned (.int .i64 (fstGo (in1B v) xs 0)) ∧ Below w.heap.size w w' := by
  have hnx := hx.n_eq
  have hcx := hx.cap_le
  unfold maxLen at hcx
  have hn63 : n ≤ 9223372036854775807 := by omega
  have hx' := hx.more (S' := fun b => b < w.heap.size) fun b _ h => h
  have Hend : Hid (fstGo (in1B v) xs 0 = fstGo (in1B v) (xs.drop 0) 0) := rfl
  have hlt : pb < w.heap.size := World.block_lt_of_cell? w _ (hc 0 _ rfl)
  have Hq : Hid (∀ W s, Below w.heap.size w W → Calls Tryz.prog 37 #[.agg #[.int .i64 (Spn.lo s).major, .int .i64 s.lo.minor, .int .i64 s.lo.patch, .int .i64 s.hi.major, .int .i64 s.hi.minor, .int .i64 s.hi.patch], .pointer (some ⟨pb, 0, none⟩)] W fun e w' => e = .returned (.bool (in1B v s)) ∧ Below W.heap.size W w') :=
    fun W s hb => in1_any s v pb W fun j u hj => below_cell hb (hc j u hj) hlt
  have Hnx := Lib.hid hnx; clear hnx
  clear hcx hx hc
  generalize fstGo (in1B v) xs 0 = r at *
  go_enter Tryz.func60, Tryz.ntmps60
  go_wp2_with fail
  go_loopw [8] (fun i wr => ∃ k : Nat, k ≤ n ∧ i = .int .i64 k ∧ Hid (r = fstGo (in1B v) (xs.drop k) k) ∧ Below w.heap.size w wr) (fun i _ => n - (intOf i).toNat)
  case atStart => exact ⟨0, Nat.zero_le _, rfl, Hend, Below.refl _ _⟩
  case round =>
    obtain ⟨k, hk, rfl, heq, hbel⟩ := hrel
    by_cases hlt : k < n
    · have hkx : k < xs.length := by have := Hnx.out; omega
      have hxw := hx'.below hbel (fun b h => h)
      obtain ⟨b, o, cs, rfl, _, hb1, ⟨rfl, _⟩, hcell⟩ := hxw.elem (List.getElem?_eq_getElem hkx)
      have Hcall := Lib.hid (Hq.out wr xs[k] hbel)
      have Hat := Lib.hid (fstGo_at (in1B v) hkx)
      have c0 := hcell 0 _ rfl
      have c1 := hcell 1 _ rfl
      have c2 := hcell 2 _ rfl
      have c3 := hcell 3 _ rfl
      have c4 := hcell 4 _ rfl
      have c5 := hcell 5 _ rfl
      simp only [rSpn, Nat.add_zero] at c0 c1 c2 c3 c4 c5
      clear hcell hxw
      have hk0 : (0 : Int) ≤ (k : Int) := by omega
      have hkn : (k : Int) < (n : Int) := by omega
      have hent := fun args W => enters_in1 args W
      generalize in1B v xs[k] = V at *
      generalize xs[k] = s at *
      obtain ⟨⟨l1, l2, l3⟩, ⟨h1, h2, h3⟩⟩ := s
      simp only at Hcall c0 c1 c2 c3 c4 c5
      cases V
      · have He : Hid (r = fstGo (in1B v) (xs.drop (k + 1)) (k + 1)) := by unfold Hid; rw [heq.out, Hat.out]; rfl
        clear Hat heq
        go_wp2_with fail
        refine (Hcall.out).mono ?_
        rintro e w1 ⟨rfl, B1⟩
        go_wp2_with fail
        go_roundw
        case rel => exact ⟨k + 1, by omega, by go_num, He, bot hbel B1⟩
        case measure => simp [intOf]; omega
      · have He : Hid (r = (k : Int)) := by unfold Hid; rw [heq.out, Hat.out]; rfl
        clear Hat heq
        go_wp2_with fail
        refine (Hcall.out).mono ?_
        rintro e w1 ⟨rfl, B1⟩
        go_wp2_with fail
        go_ret
        exact ⟨ret_int He.out.symm, bot hbel B1⟩
    · have He : Hid (r = -1) := by unfold Hid; rw [heq.out, List.drop_eq_nil_of_le (by have := Hnx.out; omega)]; rfl
      go_wp2_with fail
      go_ret
      exact ⟨ret_int He.out.symm, hbel⟩

set_option maxHeartbeats 800000 in
theorem containsSpn_any (v : Ver) (pb : Nat) (A : Option Addr) (n c : Nat) (xs : List Spn) (w : World) (S : Nat → Prop) (hx : SlV rSpn w S xs (.slice A n c)) (hc : ∀ j u, (cellsV v)[j]? = some u → w.cell? ⟨pb, j, none⟩ = some u) :
    Calls Tryz.prog 36 #[.slice A n c, .func (.func 37) #[] #[.pointer (some ⟨pb, 0, none⟩)]] w fun e w' => e = .returned (.bool (xs.any (in1B v))) ∧ Below w.heap.size w w' := by
  have Hc := Lib.hid (indexSpn_any v pb A n c xs w S hx hc)
  have Hr := Lib.hid (fstGo_any (in1B v) xs 0)
  clear hx hc
  generalize fstGo (in1B v) xs 0 = r at *
  generalize xs.any (in1B v) = R at *
  go_enter Tryz.func36, Tryz.ntmps36
  go_wp2_with fail
  refine (Hc.out).mono ?_
  rintro e w1 ⟨rfl, B1⟩
  rcases Hr.out with ⟨h1, h2⟩ | ⟨h1, h2⟩
  · have hd : decide (0 ≤ r) = false := decide_eq_false (by omega)
    have H2 := Lib.hid h2
    clear h1 h2
    go_wp2_with fail
    go_ret
    exact ⟨ret_bool (by rw [H2.out]), B1⟩
  · have hd : decide (0 ≤ r) = true := decide_eq_true h1
    have hd' : 0 ≤ r := h1
    have H2 := Lib.hid h2
    clear h1 h2
    go_wp2_with fail
    go_ret
    exact ⟨ret_bool (by rw [H2.out]), B1⟩

/-- is a version in a range? -/
noncomputable def inSB (l : List Spn) (v : Ver) : Bool := spansB l && (v.ok && hasB (rks l) v.rank)
theorem spanGo_ok : ∀ {l : List Spn} {a : Int}, spanGo a l = true → (∀ s ∈ l, s.lo.ok = true ∧ s.hi.ok = true) ∧ Nrm a (rks l) := by
  intro l
  induction l with
  | nil => intro a _; exact ⟨fun s h => by simp at h, trivial⟩
  | cons s l ih =>
    intro a h
    unfold spanGo at h
    simp only [Bool.and_eq_true, decide_eq_true_eq] at h
    obtain ⟨⟨⟨⟨h1, h2⟩, h3⟩, h4⟩, h5⟩ := h
    obtain ⟨i1, i2⟩ := ih h5
    refine ⟨fun x hx => ?_, h3, h4, i2⟩
    rcases List.mem_cons.1 hx with rfl | hx
    · exact ⟨h1, h2⟩
    · exact i1 x hx
theorem spansB_ok {l : List Spn} (h : spansB l = true) : l.length ≤ 64 ∧ (∀ s ∈ l, s.lo.ok = true ∧ s.hi.ok = true) ∧ Nrm 0 (rks l) := by
  unfold spansB at h
  simp only [Bool.and_eq_true, decide_eq_true_eq] at h
  exact ⟨h.1, spanGo_ok h.2⟩
theorem any_has {l : List Spn} (h : spansB l = true) {v : Ver} (hv : v.ok = true) : l.any (in1B v) = hasB (rks l) v.rank := by
  obtain ⟨_, h2, _⟩ := spansB_ok h
  rw [Bool.eq_iff_iff, hasB_iff, List.any_eq_true]
  unfold Has in1B rks
  constructor
  · rintro ⟨s, hs, hq⟩
    simp only [Bool.and_eq_true, decide_eq_true_eq] at hq
    exact ⟨_, List.mem_map.2 ⟨s, hs, rfl⟩, (cmpV_le (h2 s hs).1 hv).1 hq.1, (cmpV_le hv (h2 s hs).2).1 hq.2⟩
  · rintro ⟨x, hx, q1, q2⟩
    obtain ⟨s, hs, rfl⟩ := List.mem_map.1 hx
    exact ⟨s, hs, by simp only [Bool.and_eq_true, decide_eq_true_eq]; exact ⟨(cmpV_le (h2 s hs).1 hv).2 q1, (cmpV_le hv (h2 s hs).2).2 q2⟩⟩

set_option maxHeartbeats 1600000 in
theorem spanIn_any (A : Option Addr) (n c : Nat) (l : List Spn) (v : Ver) (w : World) (S : Nat → Prop) (hl : SlV rSpn w S l (.slice A n c)) :
    Calls Tryz.prog 14 #[.slice A n c, verV v] w fun e w' => e = .returned (.bool (inSB l v)) ∧ Below w.heap.size w w' := by
  have HX := Lib.hid (hl.more (S' := fun b => b < w.heap.size) fun b _ h => h)
  have H1 : Hid (∀ W, Below w.heap.size w W → Calls Tryz.prog 12 #[.slice A n c] W fun e w' => e = .returned (.bool (spansB l)) ∧ Below W.heap.size W w') := fun W hW => spanMay_any A n c l W _ (HX.out.belowSize hW)
  have H2 := Lib.hid (fun W => versMay_any v.major v.minor v.patch W)
  have H3 : Hid (∀ W pb, Below w.heap.size w W → (∀ j u, (cellsV v)[j]? = some u → W.cell? ⟨pb, j, none⟩ = some u) → Calls Tryz.prog 36 #[.slice A n c, .func (.func 37) #[] #[.pointer (some ⟨pb, 0, none⟩)]] W fun e w' => e = .returned (.bool (l.any (in1B v))) ∧ Below W.heap.size W w') :=
    fun W pb hW hc => containsSpn_any v pb A n c l W _ (HX.out.belowSize hW) hc
  have HR : Hid (inSB l v = (spansB l && (verB v.major v.minor v.patch && l.any (in1B v)))) := by
    unfold Hid inSB
    cases hs : spansB l with
    | false => rfl
    | true =>
      show (true && (verB v.major v.minor v.patch && _)) = _
      cases hv : verB v.major v.minor v.patch with
      | false => rfl
      | true => rw [any_has hs hv]
  have Hcs : Hid (cellsV v = [.int .i64 v.major, .int .i64 v.minor, .int .i64 v.patch]) := rfl
  unfold verV
  generalize inSB l v = R at *
  generalize spansB l = p at *
  generalize verB v.major v.minor v.patch = q at *
  generalize l.any (in1B v) = r at *
  generalize cellsV v = cv at *
  obtain ⟨v1, v2, v3⟩ := v
  simp only at H2 Hcs ⊢
  clear hl HX
  go_enter Tryz.func14, Tryz.ntmps14
  go_wp2_with fail
  obtain ⟨w0, hw0⟩ : ∃ w0, w0 = w.alloc (.cells #[.int .i64 v1, .int .i64 v2, .int .i64 v3] 24) := ⟨_, rfl⟩
  have hb0 : Below w.heap.size w w0 := by rw [hw0]; exact bal (Below.refl _ _) _
  have hr0 : w0.heap[w.heap.size]? = some (.cells #[.int .i64 v1, .int .i64 v2, .int .i64 v3] 24 (0, 0)) := by rw [hw0]; exact heap_alloc_new _ _
  rw [← hw0]
  clear hw0
  refine (H1.out _ hb0).mono ?_
  rintro e w1 ⟨rfl, hb1⟩
  have hlt0 : w.heap.size < w0.heap.size := (Array.getElem?_eq_some_iff.1 hr0).1
  have hr1 := (hb1.block _ hlt0).trans hr0
  have HB1 := Lib.hid (bot hb0 hb1)
  obtain ⟨⟨c0, c1, c2⟩, _⟩ := row3 hr1
  have Hr1 := Lib.hid hr1
  clear hb0 hb1 hr0 hr1 H1
  cases p with
  | false =>
    have He : Hid (R = false) := by unfold Hid; rw [HR.out]; rfl
    go_wp2_with fail
    go_ret
    exact ⟨ret_bool He.out.symm, HB1.out⟩
  | true =>
  go_wp2_with fail
  refine (H2.out _).mono ?_
  rintro e w2 ⟨rfl, hb2⟩
  have hlt1 : w.heap.size < w1.heap.size := (Array.getElem?_eq_some_iff.1 Hr1.out).1
  have hr2 := (hb2.block _ hlt1).trans Hr1.out
  have HB2 := Lib.hid (bot HB1.out hb2)
  obtain ⟨⟨d0, d1, d2⟩, _⟩ := row3 hr2
  clear hb2 hr2 c0 c1 c2 H2
  cases q with
  | false =>
    have He : Hid (R = false) := by unfold Hid; rw [HR.out]; rfl
    go_wp2_with fail
    go_ret
    exact ⟨ret_bool He.out.symm, HB2.out⟩
  | true =>
  have He : Hid (R = r) := by unfold Hid; rw [HR.out]; rfl
  have H3' := Lib.hid (H3.out w2 w.heap.size HB2.out (fun j u hj => by
    rw [Hcs.out] at hj
    match j, hj with
    | 0, hj => cases hj; exact d0
    | 1, hj => cases hj; exact d1
    | 2, hj => cases hj; exact d2
    | j + 3, hj => simp at hj))
  clear H3
  cases r <;>
  · go_wp2_with fail
    refine H3'.out.mono ?_
    rintro e w3 ⟨rfl, hb3⟩
    go_wp2_with fail
    go_ret
    exact ⟨ret_bool He.out.symm, bot HB2.out hb3⟩

set_option maxHeartbeats 1600000 in
theorem refIn_any (A : Option Addr) (n c : Nat) (l : List Spn) (v : Ver) (w : World) (S : Nat → Prop) (hl : SlV rSpn w S l (.slice A n c)) :
    Calls Tryz.prog 15 #[.slice A n c, verV v] w fun e w' => e = .returned (.bool (inSB l v)) ∧ Below w.heap.size w w' := by
  have HX := Lib.hid (hl.more (S' := fun b => b < w.heap.size) fun b _ h => h)
  have H1 : Hid (∀ W, Below w.heap.size w W → Calls Tryz.prog 13 #[.slice A n c] W fun e w' => e = .returned (.bool (spansB l)) ∧ Below W.heap.size W w') := fun W hW => refSpanMay_any A n c l W _ (HX.out.belowSize hW)
  have H2 := Lib.hid (fun W => refVerMay_any v.major v.minor v.patch W)
  have H3 := Lib.hid (fun W => refRank_any v.major v.minor v.patch W)
  have H4 : Hid (∀ W, Below w.heap.size w W → Calls Tryz.prog 39 #[.slice A n c, .int .i64 (rankR v.major v.minor v.patch)] W fun e w' => e = .returned (.bool (hasB (rks l) (rankR v.major v.minor v.patch))) ∧ Below W.heap.size W w') :=
    fun W hW => has_any A n c l _ W _ (HX.out.belowSize hW)
  have HR : Hid (inSB l v = (spansB l && (verB v.major v.minor v.patch && hasB (rks l) (rankR v.major v.minor v.patch)))) := rfl
  unfold verV
  generalize inSB l v = R at *
  generalize spansB l = p at *
  generalize verB v.major v.minor v.patch = q at *
  generalize rankR v.major v.minor v.patch = N at *
  generalize hasB (rks l) N = r at *
  obtain ⟨v1, v2, v3⟩ := v
  simp only at H2 H3 ⊢
  clear hl HX
  go_enter Tryz.func15, Tryz.ntmps15
  go_wp2_with fail
  obtain ⟨w0, hw0⟩ : ∃ w0, w0 = w.alloc (.cells #[.int .i64 v1, .int .i64 v2, .int .i64 v3] 24) := ⟨_, rfl⟩
  have hb0 : Below w.heap.size w w0 := by rw [hw0]; exact bal (Below.refl _ _) _
  have hr0 : w0.heap[w.heap.size]? = some (.cells #[.int .i64 v1, .int .i64 v2, .int .i64 v3] 24 (0, 0)) := by rw [hw0]; exact heap_alloc_new _ _
  rw [← hw0]
  clear hw0
  refine (H1.out _ hb0).mono ?_
  rintro e w1 ⟨rfl, hb1⟩
  have hlt0 : w.heap.size < w0.heap.size := (Array.getElem?_eq_some_iff.1 hr0).1
  have hr1 := (hb1.block _ hlt0).trans hr0
  have HB1 := Lib.hid (bot hb0 hb1)
  obtain ⟨⟨c0, c1, c2⟩, _⟩ := row3 hr1
  have Hr1 := Lib.hid hr1
  clear hb0 hb1 hr0 hr1 H1
  cases p with
  | false =>
    have He : Hid (R = false) := by unfold Hid; rw [HR.out]; rfl
    go_wp2_with fail
    go_ret
    exact ⟨ret_bool He.out.symm, HB1.out⟩
  | true =>
  go_wp2_with fail
  refine (H2.out _).mono ?_
  rintro e w2 ⟨rfl, hb2⟩
  have hlt1 : w.heap.size < w1.heap.size := (Array.getElem?_eq_some_iff.1 Hr1.out).1
  have hr2 := (hb2.block _ hlt1).trans Hr1.out
  have HB2 := Lib.hid (bot HB1.out hb2)
  obtain ⟨⟨d0, d1, d2⟩, _⟩ := row3 hr2
  have hr2H := Lib.hid hr2
  clear hb2 hr2 c0 c1 c2 H2
  cases q with
  | false =>
    have He : Hid (R = false) := by unfold Hid; rw [HR.out]; rfl
    go_wp2_with fail
    go_ret
    exact ⟨ret_bool He.out.symm, HB2.out⟩
  | true =>
  have He : Hid (R = r) := by unfold Hid; rw [HR.out]; rfl
  go_wp2_with fail
  refine (H3.out _).mono ?_
  rintro e w3 ⟨rfl, hb3⟩
  have HB3 := Lib.hid (bot HB2.out hb3)
  have H4' := Lib.hid (H4.out w3 HB3.out)
  clear H4 H3 hb3
  cases r <;>
  · go_wp2_with fail
    refine H4'.out.mono ?_
    rintro e w4 ⟨rfl, hb4⟩
    go_wp2_with fail
    go_ret
    exact ⟨ret_bool He.out.symm, bot HB3.out hb4⟩
end Go.Proofs.YtghihopmiagcpaaGreatDoor
