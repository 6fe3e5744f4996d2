/-
  The law ChartPlane: twisting is multiplication; it answers true, and what was there stays.
-/
import Derived.Test.YtkpbnbnfgadkcaaMovesA
import Derived.Test.YtkpbnbnfgadkcaaAlike
namespace Go.Proofs.Ytkpbnbnfgadkcaa
open Go.RowKit
set_option linter.unusedVariables false
set_option linter.unusedSimpArgs false

/-- no further than 2^20 -/
def nearB (s : Spot) : Bool := decide (-1048576 ≤ s.x) && decide (s.x ≤ 1048576) && decide (-1048576 ≤ s.y) && decide (s.y ≤ 1048576)

theorem twist_near {a b : Int} (h2 : -1024 ≤ a) (h3 : a ≤ 1024) (h4 : -1024 ≤ b) (h5 : b ≤ 1024) {s : Spot} (h : nearB s = true) :
    (twistF a b s).x.natAbs ≤ 2147483648 ∧ (twistF a b s).y.natAbs ≤ 2147483648 := by
  simp [nearB] at h
  have q1 : (s.x * a).natAbs < 1073741825 := natAbs_mul_lt (A := 1048576) (B := 1024) (by omega) (by omega) (by omega)
  have q2 : (s.y * b).natAbs < 1073741825 := natAbs_mul_lt (A := 1048576) (B := 1024) (by omega) (by omega) (by omega)
  have q3 : (s.x * b).natAbs < 1073741825 := natAbs_mul_lt (A := 1048576) (B := 1024) (by omega) (by omega) (by omega)
  have q4 : (s.y * a).natAbs < 1073741825 := natAbs_mul_lt (A := 1048576) (B := 1024) (by omega) (by omega) (by omega)
  simp only [twistF]
  omega

theorem mayB_of {l : List Spot} (hl : l.length ≤ 257) (h : ∀ s ∈ l, s.x.natAbs ≤ 1099511627776 ∧ s.y.natAbs ≤ 1099511627776) : mayB l = true := by
  unfold mayB
  rw [Bool.and_eq_true, decide_eq_true_eq, Bool.not_eq_true', List.any_eq_false]
  refine ⟨hl, fun s hs => ?_⟩
  have := h s hs
  simp [farB]
  omega

/-- sizes multiply -/
theorem size_mul (x y a b : Int) : (x * a - y * b) * (x * a - y * b) + (x * b + y * a) * (x * b + y * a) = (x * x + y * y) * (a * a + b * b) := by
  simp only [Int.sub_mul, Int.mul_sub, Int.add_mul, Int.mul_add]
  have e1 : x * a * (x * a) = x * x * (a * a) := by simp only [Int.mul_assoc, Int.mul_left_comm]
  have e2 : x * a * (y * b) = x * y * (a * b) := by simp only [Int.mul_assoc, Int.mul_left_comm]
  have e3 : y * b * (x * a) = x * y * (a * b) := by rw [Int.mul_comm]; exact e2
  have e4 : y * b * (y * b) = y * y * (b * b) := by simp only [Int.mul_assoc, Int.mul_left_comm]
  have e5 : x * b * (x * b) = x * x * (b * b) := by simp only [Int.mul_assoc, Int.mul_left_comm]
  have e6 : x * b * (y * a) = x * y * (a * b) := by rw [show x * b * (y * a) = x * y * (b * a) from by simp only [Int.mul_assoc, Int.mul_left_comm], Int.mul_comm b a]
  have e7 : y * a * (x * b) = x * y * (a * b) := by rw [Int.mul_comm]; exact e6
  have e8 : y * a * (y * a) = y * y * (a * a) := by simp only [Int.mul_assoc, Int.mul_left_comm]
  rw [e1, e2, e3, e4, e5, e6, e7, e8]
  omega

/-- no product of the law wraps, and the two sizes are one -/
theorem plane_wraps {a b : Int} (h2 : -1024 ≤ a) (h3 : a ≤ 1024) (h4 : -1024 ≤ b) (h5 : b ≤ 1024) {s : Spot} (h : nearB s = true) :
    IntKind.i64.wrap ((twistF a b s).x * (twistF a b s).x) = (twistF a b s).x * (twistF a b s).x ∧ IntKind.i64.wrap ((twistF a b s).y * (twistF a b s).y) = (twistF a b s).y * (twistF a b s).y ∧
    IntKind.i64.wrap ((twistF a b s).x * (twistF a b s).x + (twistF a b s).y * (twistF a b s).y) = (twistF a b s).x * (twistF a b s).x + (twistF a b s).y * (twistF a b s).y ∧
    IntKind.i64.wrap (s.x * s.x) = s.x * s.x ∧ IntKind.i64.wrap (s.y * s.y) = s.y * s.y ∧ IntKind.i64.wrap (s.x * s.x + s.y * s.y) = s.x * s.x + s.y * s.y ∧
    IntKind.i64.wrap (a * a) = a * a ∧ IntKind.i64.wrap (b * b) = b * b ∧ IntKind.i64.wrap (a * a + b * b) = a * a + b * b ∧
    IntKind.i64.wrap ((s.x * s.x + s.y * s.y) * (a * a + b * b)) = (s.x * s.x + s.y * s.y) * (a * a + b * b) ∧
    ((twistF a b s).x * (twistF a b s).x + (twistF a b s).y * (twistF a b s).y != (s.x * s.x + s.y * s.y) * (a * a + b * b)) = false := by
  obtain ⟨t1, t2⟩ := twist_near h2 h3 h4 h5 h
  have hsz := size_mul s.x s.y a b
  simp [nearB] at h
  obtain ⟨⟨⟨n1, n2⟩, n3⟩, n4⟩ := h
  have q1 : (s.x * s.x).natAbs < 1099511627777 := natAbs_mul_lt (A := 1048576) (B := 1048576) (by omega) (by omega) (by omega)
  have q2 : (s.y * s.y).natAbs < 1099511627777 := natAbs_mul_lt (A := 1048576) (B := 1048576) (by omega) (by omega) (by omega)
  have q3 : (a * a).natAbs < 1048577 := natAbs_mul_lt (A := 1024) (B := 1024) (by omega) (by omega) (by omega)
  have q4 : (b * b).natAbs < 1048577 := natAbs_mul_lt (A := 1024) (B := 1024) (by omega) (by omega) (by omega)
  have q5 : ((s.x * s.x + s.y * s.y) * (a * a + b * b)).natAbs < 4611686018427387905 := natAbs_mul_lt (A := 2199023255552) (B := 2097152) (by omega) (by omega) (by omega)
  have q6 : ((twistF a b s).x * (twistF a b s).x).natAbs < 4611686018427387905 := natAbs_mul_lt (A := 2147483648) (B := 2147483648) t1 t1 (by omega)
  have q7 : ((twistF a b s).y * (twistF a b s).y).natAbs < 4611686018427387905 := natAbs_mul_lt (A := 2147483648) (B := 2147483648) t2 t2 (by omega)
  have q8 : (twistF a b s).x * (twistF a b s).x + (twistF a b s).y * (twistF a b s).y = (s.x * s.x + s.y * s.y) * (a * a + b * b) := hsz
  refine ⟨IntWalk.i64_in _ (by omega), IntWalk.i64_in _ (by omega), ?_, IntWalk.i64_in _ (by omega), IntWalk.i64_in _ (by omega), IntWalk.i64_in _ (by omega), IntWalk.i64_in _ (by omega), IntWalk.i64_in _ (by omega), IntWalk.i64_in _ (by omega), IntWalk.i64_in _ (by omega), ?_⟩
  · rw [q8]; exact IntWalk.i64_in _ (by omega)
  · rw [q8]; simp

/-- flipping turns multiplication round -/
theorem flip_twist (a b : Int) (s : Spot) : flipF (twistF a b s) = twistF a (-b) (flipF s) := by
  simp only [flipF, twistF, Spot.mk.injEq, true_and]
  refine ⟨?_, ?_⟩
  · rw [Int.neg_mul_neg]
  · rw [Int.mul_neg, Int.neg_mul]; omega
theorem flip_flip (s : Spot) : flipF (flipF s) = s := by
  simp [flipF]
theorem sum_twist (a b : Int) (l : List Spot) : sumX (l.map (twistF a b)) = sumX l * a - sumY l * b ∧ sumY (l.map (twistF a b)) = sumX l * b + sumY l * a := by
  induction l with
  | nil => simp [sumX, sumY]
  | cons s l ih =>
    obtain ⟨h1, h2⟩ := ih
    simp only [sumX, sumY, List.map_cons, List.sum_cons] at *
    rw [h1, h2]
    simp only [twistF, Int.add_mul]
    omega

/-- a drawing that may be, within the reach -/
def Fine (l : List Spot) : Prop := mayB l = true ∧ l.length * 40 ≤ 140737488351232 ∧ ∀ s ∈ l, s.path.length * 16 ≤ 140737488351232

theorem twist_ok (A : Option Addr) (n c : Nat) (a b : Int) (l : List Spot) (w : World) (S : Nat → Prop) (hf : Fine l) (h2 : -1024 ≤ a) (h3 : a ≤ 1024) (h4 : -1024 ≤ b) (h5 : b ≤ 1024) (hl : SlV rSpot w S l (.slice A n c)) :
    Calls Try.prog 6 #[.slice A n c, .int .i64 a, .int .i64 b] w fun e w' => ∃ v, e = .returned (.tuple #[v, .int .i64 0]) ∧ SlV rSpot w' (fun _ => True) (l.map (twistF a b)) v ∧ Below w.heap.size w w' :=
  (chTwist_any A n c a b l w S hf.2.1 hf.2.2 (by unfold I64; omega) (by unfold I64; omega) hl).mono fun e w' h => by
    have : twistR l a b = some (l.map (twistF a b)) := by simp [twistR, twistOk, smallB, hf.1, h2, h3, h4, h5]
    rw [this] at h
    exact h
theorem flip_ok (A : Option Addr) (n c : Nat) (l : List Spot) (w : World) (S : Nat → Prop) (hf : Fine l) (hl : SlV rSpot w S l (.slice A n c)) :
    Calls Try.prog 12 #[.slice A n c] w fun e w' => ∃ v, e = .returned (.tuple #[v, .int .i64 0]) ∧ SlV rSpot w' (fun _ => True) (l.map flipF) v ∧ Below w.heap.size w w' :=
  (chFlip_any A n c l w S hf.2.1 hf.2.2 hl).mono fun e w' h => by
    have : flipR l = some (l.map flipF) := by simp [flipR, hf.1]
    rw [this] at h
    exact h

theorem sum_near {l : List Spot} (h : ∀ s ∈ l, nearB s = true) : (sumX l).natAbs ≤ l.length * 1048576 ∧ (sumY l).natAbs ≤ l.length * 1048576 := by
  induction l with
  | nil => simp [sumX, sumY]
  | cons s l ih =>
    have h1 := h s (by simp)
    simp [nearB] at h1
    obtain ⟨h3, h4⟩ := ih (fun s hs => h s (by simp [hs]))
    simp only [sumX, sumY, List.map_cons, List.sum_cons, List.length_cons, Nat.succ_mul] at *
    omega
theorem fine_map {l : List Spot} (hf : Fine l) (F : Spot → Spot) (hp : ∀ s, (F s).path = s.path) (hF : ∀ s ∈ l, (F s).x.natAbs ≤ 1099511627776 ∧ (F s).y.natAbs ≤ 1099511627776) : Fine (l.map F) := by
  refine ⟨mayB_of ?_ ?_, ?_, ?_⟩
  · rw [List.length_map]; exact (mayB_far hf.1).1
  · intro s hs
    obtain ⟨s', h1, rfl⟩ := List.mem_map.1 hs
    exact hF s' h1
  · rw [List.length_map]; exact hf.2.1
  · intro s hs
    obtain ⟨s', h1, rfl⟩ := List.mem_map.1 hs
    rw [hp]; exact hf.2.2 s' h1
theorem fine_twist {l : List Spot} (hf : Fine l) {a b : Int} (h2 : -1024 ≤ a) (h3 : a ≤ 1024) (h4 : -1024 ≤ b) (h5 : b ≤ 1024) (hn : ∀ s ∈ l, nearB s = true) : Fine (l.map (twistF a b)) :=
  fine_map hf _ (fun _ => rfl) fun s hs => by have := twist_near h2 h3 h4 h5 (hn s hs); omega
theorem fine_flip {l : List Spot} (hf : Fine l) : Fine (l.map flipF) :=
  fine_map hf _ (fun _ => rfl) fun s hs => by have := (mayB_far hf.1).2 s hs; simp only [flipF, Int.natAbs_neg]; exact this
theorem weight_ok (A : Option Addr) (n c : Nat) (l : List Spot) (w : World) (S : Nat → Prop) (hf : Fine l) (hl : SlV rSpot w S l (.slice A n c)) :
    Calls Try.prog 17 #[.slice A n c] w fun e w' => e = .returned (.tuple #[.int .i64 (sumX l), .int .i64 (sumY l), .int .i64 0]) ∧ Below w.heap.size w w' :=
  (weight_any A n c l w S (by have := hl.n_eq; have := hf.2.1; omega) hl).mono fun e w' h => by
    simpa [weightOf, weightErr, hf.1] using h
theorem weight_wraps {l : List Spot} (hl : l.length ≤ 257) (h : ∀ s ∈ l, nearB s = true) {a b : Int} (h2 : -1024 ≤ a) (h3 : a ≤ 1024) (h4 : -1024 ≤ b) (h5 : b ≤ 1024) :
    IntKind.i64.wrap (sumX l * a) = sumX l * a ∧ IntKind.i64.wrap (sumY l * b) = sumY l * b ∧ IntKind.i64.wrap (sumX l * a - sumY l * b) = sumX l * a - sumY l * b ∧
    IntKind.i64.wrap (sumX l * b) = sumX l * b ∧ IntKind.i64.wrap (sumY l * a) = sumY l * a ∧ IntKind.i64.wrap (sumX l * b + sumY l * a) = sumX l * b + sumY l * a := by
  have hs := sum_near h
  have hS := Nat.mul_le_mul_right 1048576 hl
  exact mul_parts (by omega) (by omega) (by omega) (by omega)

set_option maxRecDepth 100000 in
theorem plane_no (A : Option Addr) (n c : Nat) (a b : Int) (l : List Spot) (w : World) (S : Nat → Prop) (hn63 : n ≤ 9223372036854775807) (h : twistOk l a b = false) (hl : SlV rSpot w S l (.slice A n c)) :
    Calls Try.prog 4 #[.slice A n c, .int .i64 a, .int .i64 b] w fun e w' => e = .returned (.bool true) ∧ Below w.heap.size w w' := by
  have Hc : Hid (∀ W, Below w.heap.size w W → Calls Try.prog 15 #[.slice A n c] W fun e w' => e = .returned (.bool (mayB l)) ∧ W = w') := fun W hW => refMay_any A n c l W _ hn63 (hl.belowSize hW)
  clear hl
  by_cases hm : mayB l = true
  · have hs : smallB a b = false := by simpa [twistOk, hm] using h
    rw [hm] at Hc
    clear h hm
    have hs' : a < -1024 ∨ (¬ a < -1024 ∧ 1024 < a) ∨ (¬ a < -1024 ∧ ¬ 1024 < a ∧ b < -1024) ∨ (¬ a < -1024 ∧ ¬ 1024 < a ∧ ¬ b < -1024 ∧ 1024 < b) := by
      simp [smallB] at hs; omega
    clear hs
    rcases hs' with h1 | ⟨h1, h2⟩ | ⟨h1, h2, h3⟩ | ⟨h1, h2, h3, h4⟩
    all_goals
      go_enter Try.func4, Try.ntmps4
      go_wp2_with fail
      refine (known_any w).mono ?_
      rintro e w1 ⟨rfl, hb1⟩
      go_wp2_with fail
      refine (Hc.out w1 hb1).mono ?_
      rintro e w2 ⟨rfl, rfl⟩
      go_wp2
      go_ret
      exact ⟨rfl, hb1⟩
  · rw [Bool.not_eq_true] at hm
    rw [hm] at Hc
    clear h hm
    go_enter Try.func4, Try.ntmps4
    go_wp2_with fail
    refine (known_any w).mono ?_
    rintro e w1 ⟨rfl, hb1⟩
    go_wp2_with fail
    refine (Hc.out w1 hb1).mono ?_
    rintro e w2 ⟨rfl, rfl⟩
    go_wp2
    go_ret
    exact ⟨rfl, hb1⟩

set_option maxRecDepth 100000 in
set_option maxHeartbeats 4000000 in
theorem plane_yes (A : Option Addr) (n c : Nat) (a b : Int) (l : List Spot) (w : World) (S : Nat → Prop) (hf : Fine l) (h2 : -1024 ≤ a) (h3 : a ≤ 1024) (h4 : -1024 ≤ b) (h5 : b ≤ 1024) (hl : SlV rSpot w S l (.slice A n c)) :
    Calls Try.prog 4 #[.slice A n c, .int .i64 a, .int .i64 b] w fun e w' => e = .returned (.bool true) ∧ Below w.heap.size w w' := by
  have hnx := hl.n_eq
  have hn63 : n ≤ 9223372036854775807 := by have := hf.2.1; omega
  have Hnx := Lib.hid hnx; clear hnx
  have Hf := Lib.hid hf; clear hf
  have Hl : Hid (∀ W, Below w.heap.size w W → SlV rSpot W (fun b => b < w.heap.size) l (.slice A n c)) := fun W hW => (hl.more (fun b _ h => h)).below hW (fun b h => h)
  clear hl
  go_enter Try.func4, Try.ntmps4
  go_wp2_with fail
  refine (known_any w).mono ?_
  rintro e w1 ⟨rfl, hb1⟩
  go_wp2_with fail
  refine (refMay_any A n c l w1 _ hn63 (Hl.out w1 hb1)).mono ?_
  rintro e w2 ⟨rfl, rfl⟩
  rw [Hf.out.1]
  go_wp2_with fail
  go_loop [7] (fun i => ∃ k : Nat, k ≤ n ∧ i = .int .i64 k ∧ Hid (∀ s ∈ l.take k, nearB s = true)) (fun i => n - (intOf i).toNat)
  case atStart => exact ⟨0, Nat.zero_le _, rfl, by simp [Hid]⟩
  case round =>
    obtain ⟨k, hk, rfl, hnear⟩ := hrel
    by_cases hlt : k < n
    · have hkx : k < l.length := by have := Hnx.out; omega
      obtain ⟨pb, po, cs, hA, hSb, hb, hsp, hcell⟩ := (Hl.out w1 hb1).elem (List.getElem?_eq_getElem hkx)
      subst hA
      obtain ⟨q, rfl, hq, hx, hy⟩ := hsp
      have hc1 := hcell 1 _ rfl
      have hc2 := hcell 2 _ rfl
      simp only [rSpot, Nat.add_zero] at hc1 hc2
      clear hq hcell hx hy
      have hnx : nearB l[k] = true → ∀ s ∈ l.take (k + 1), nearB s = true := fun h s hs => by
        rw [List.take_succ_eq_append_getElem hkx, List.mem_append] at hs
        rcases hs with hs | hs
        · exact hnear.out s hs
        · simp at hs; subst hs; exact h
      have Hn := Lib.hid hnx; clear hnx
      have hkn : (k : Int) < (n : Int) := by omega
      generalize l[k] = s at *
      obtain ⟨path, x, y⟩ := s
      simp only at hc1 hc2
      have hs' : x < -1048576 ∨ (¬ x < -1048576 ∧ 1048576 < x) ∨ (¬ x < -1048576 ∧ ¬ 1048576 < x ∧ y < -1048576) ∨ (¬ x < -1048576 ∧ ¬ 1048576 < x ∧ ¬ y < -1048576 ∧ 1048576 < y) ∨ (¬ x < -1048576 ∧ ¬ 1048576 < x ∧ ¬ y < -1048576 ∧ ¬ 1048576 < y) := by omega
      rcases hs' with q1 | ⟨q1, q2⟩ | ⟨q1, q2, q3⟩ | ⟨q1, q2, q3, q4⟩ | ⟨q1, q2, q3, q4⟩
      · go_wp2; go_ret; exact ⟨rfl, hb1⟩
      · go_wp2; go_ret; exact ⟨rfl, hb1⟩
      · go_wp2; go_ret; exact ⟨rfl, hb1⟩
      · go_wp2; go_ret; exact ⟨rfl, hb1⟩
      · have hno : Hid (nearB ⟨path, x, y⟩ = true) := by simp [Hid, nearB]; omega
        go_wp2
        go_round
        case rel => exact ⟨k + 1, by omega, by go_num, Hn.out hno.out⟩
        case measure => simp [intOf]; omega
    · have hkn : k = l.length := by have := Hnx.out; omega
      have hall : ∀ s ∈ l, nearB s = true := by have := hnear.out; rwa [hkn, List.take_length] at this
      have Hall := Lib.hid hall; clear hall hnear hkn
      go_wp2_with fail
      refine (given_any A n c l w1 _ Hf.out.2.1 (Hl.out w1 hb1)).mono ?_
      rintro e w2 ⟨v1, rfl, hv1, hb2⟩
      obtain ⟨A1, c1, rfl, _, _⟩ := hv1.val
      have hB2 : Below w.heap.size w w2 := hb1.trans (hb2.mono hb1.size)
      go_wp2_with fail
      refine (twist_ok _ _ _ a b l w2 _ Hf.out h2 h3 h4 h5 hv1).mono ?_
      rintro e w3 ⟨v2, rfl, hv2, hb3⟩
      clear hv1
      obtain ⟨A2, c2, rfl, _, _⟩ := hv2.val
      have hB3 : Below w.heap.size w w3 := hB2.trans (hb3.mono hB2.size)
      have hlen : (l.map (twistF a b)).length = n := by rw [List.length_map]; exact Hnx.out.symm
      have Hlen := Lib.hid hlen
      rw [hlen] at hv2 ⊢
      clear hlen hb3 hb2 hB2
      have Hv2 := Lib.hid hv2; clear hv2
      go_wp2_with fail
      clear hb1
      go_loopw [10] (fun i wr => ∃ k : Nat, k ≤ n ∧ i = .int .i64 k ∧ Hid (∃ q, wr = w3.drewN q)) (fun i _ => n - (intOf i).toNat)
      case atStart => exact ⟨0, Nat.zero_le _, rfl, ⟨0, rfl⟩⟩
      case round =>
        obtain ⟨k, hk, rfl, hq⟩ := hrel
        have hBr : Below w.heap.size w wr := by obtain ⟨q, e⟩ := hq.out; rw [e]; exact ⟨hB3.os, hB3.tape, hB3.output, hB3.size, hB3.block⟩
        have hv2 : SlV rSpot wr (fun _ => True) (l.map (twistF a b)) (.slice A2 n c2) := by obtain ⟨q, e⟩ := hq.out; rw [e]; exact Hv2.out.drewN q
        by_cases hlt : k < n
        · have hkx : k < l.length := by have := Hnx.out; omega
          obtain ⟨b1, o1, cs, hA1, _, _, hsp, hcell⟩ := (Hl.out wr hBr).elem (List.getElem?_eq_getElem hkx)
          subst hA1
          obtain ⟨q, rfl, hq', _, _⟩ := hsp
          have hc1 := hcell 1 _ rfl
          have hc2 := hcell 2 _ rfl
          obtain ⟨b2, o2, cs, hA2, _, _, hsp, hcell'⟩ := hv2.elem (i := k) (x := twistF a b l[k]) (by rw [List.getElem?_map, List.getElem?_eq_getElem hkx]; rfl)
          subst hA2
          obtain ⟨q', rfl, hq'', _, _⟩ := hsp
          have hd1 := hcell' 1 _ rfl
          have hd2 := hcell' 2 _ rfl
          simp only [rSpot, Nat.add_zero] at hc1 hc2 hd1 hd2
          obtain ⟨m1, m2, m3, m4, m5, m6, m7, m8, m9, m10, hne⟩ := plane_wraps h2 h3 h4 h5 (Hall.out l[k] (List.getElem_mem hkx))
          clear hq' hq'' hcell hcell' hv2
          have hkn : (k : Int) < (n : Int) := by omega
          generalize (twistF a b l[k]).x = X at *
          generalize (twistF a b l[k]).y = Y at *
          generalize (l[k]).x = x at *
          generalize (l[k]).y = y at *
          go_wp2_with fail
          go_quiet (fail)
          clear m1 m2 m3 m4 m5 m6 m7 m8 m9 m10
          go_wp2_with fail
          go_roundw
          case rel => exact ⟨k + 1, by omega, by go_num, by obtain ⟨q, e⟩ := hq.out; exact ⟨q + nq, by rw [e, World.drewN_drewN]⟩⟩
          case measure => simp [intOf]; omega
        · have Hfx := Lib.hid (fine_twist Hf.out h2 h3 h4 h5 Hall.out)
          have Hff := Lib.hid (fine_flip Hf.out)
          go_wp2_with fail
          clear hk hlt hn63
          refine (flip_ok A2 n c2 (l.map (twistF a b)) wr _ Hfx.out hv2).mono ?_
          rintro e w4 ⟨v4, rfl, hv4, hb4⟩
          have hB4 : Below w.heap.size w w4 := hBr.trans (hb4.mono hBr.size)
          obtain ⟨A4, c4, rfl, _, _⟩ := hv4.val
          have hlen : ((l.map (twistF a b)).map flipF).length = n := by rw [List.length_map]; exact Hlen.out
          rw [hlen] at hv4 ⊢
          have Hv2' := Lib.hid (hv2.belowSize hb4)
          have Hv4 := Lib.hid hv4
          clear hv4 hlen hv2 hb4 hBr hq
          go_wp2_with fail
          refine (given_any A n c l w4 _ Hf.out.2.1 (Hl.out w4 hB4)).mono ?_
          rintro e w5 ⟨v5, rfl, hv5, hb5⟩
          have hB5 : Below w.heap.size w w5 := hB4.trans (hb5.mono hB4.size)
          obtain ⟨A5, c5, rfl, _, _⟩ := hv5.val
          rw [← Hnx.out] at hv5 ⊢
          have Hv4' := Lib.hid (Hv4.out.belowSize hb5)
          have Hv2'' := Lib.hid (Hv2'.out.belowSize hb5)
          have Hv5 := Lib.hid hv5
          clear hv5 hb5 Hv2' Hv4
          go_wp2_with fail
          refine (flip_ok A5 n c5 l w5 _ Hf.out Hv5.out).mono ?_
          rintro e w6 ⟨v6, rfl, hv6, hb6⟩
          have hB6 : Below w.heap.size w w6 := hB5.trans (hb6.mono hB5.size)
          obtain ⟨A6, c6, rfl, _, _⟩ := hv6.val
          have hlen : (l.map flipF).length = n := by rw [List.length_map]; exact Hnx.out.symm
          rw [hlen] at hv6 ⊢
          have Hv4 := Lib.hid (Hv4'.out.belowSize hb6)
          have Hv2' := Lib.hid (Hv2''.out.belowSize hb6)
          have Hv6 := Lib.hid hv6
          clear hv6 hb6 Hv2'' Hv4' Hv5 hlen
          go_wp2_with fail
          refine (twist_ok A6 n c6 a (-b) (l.map flipF) w6 _ Hff.out h2 h3 (by omega) (by omega) Hv6.out).mono ?_
          rintro e w7 ⟨v7, rfl, hv7, hb7⟩
          have hB7 : Below w.heap.size w w7 := hB6.trans (hb7.mono hB6.size)
          obtain ⟨A7, c7, rfl, _, _⟩ := hv7.val
          have hlen : ((l.map flipF).map (twistF a (-b))).length = n := by rw [List.length_map, List.length_map]; exact Hnx.out.symm
          have hft : (l.map (twistF a b)).map flipF = (l.map flipF).map (twistF a (-b)) := by
            rw [List.map_map, List.map_map]; exact List.map_congr_left fun s _ => flip_twist a b s
          rw [hlen] at hv7 ⊢
          rw [← hft] at hv7
          have Hv4' := Lib.hid (Hv4.out.belowSize hb7)
          have Hv2'' := Lib.hid (Hv2'.out.belowSize hb7)
          have Hv6' := Lib.hid (Hv6.out.belowSize hb7)
          have Hv7 := Lib.hid hv7
          clear hv7 hb7 Hv2' Hv4 Hv6 hlen hft
          go_wp2_with fail
          refine (flip_ok A6 n c6 (l.map flipF) w7 _ Hff.out Hv6'.out).mono ?_
          rintro e w8 ⟨v8, rfl, hv8, hb8⟩
          have hB8 : Below w.heap.size w w8 := hB7.trans (hb8.mono hB7.size)
          obtain ⟨A8, c8, rfl, _, _⟩ := hv8.val
          have hff : (l.map flipF).map flipF = l := by
            rw [List.map_map]
            have : l.map (flipF ∘ flipF) = l.map id := List.map_congr_left fun s _ => flip_flip s
            rw [this, List.map_id]
          rw [hff] at hv8 ⊢
          rw [← Hnx.out] at hv8 ⊢
          have Hv4 := Lib.hid (Hv4'.out.belowSize hb8)
          have Hv2' := Lib.hid (Hv2''.out.belowSize hb8)
          have Hv7' := Lib.hid (Hv7.out.belowSize hb8)
          have Hv8 := Lib.hid hv8
          clear hv8 hb8 Hv2'' Hv4' Hv6' Hv7 hff
          go_wp2_with fail
          refine (alike_yes A4 A7 n n c4 c7 _ w8 _ _ (by have := Hf.out.2.1; have := Hnx.out; omega) Hv4.out Hv7'.out).mono ?_
          rintro e w9 ⟨rfl, q9, hq9⟩
          have hb9 : Below w8.heap.size w8 w9 := by rw [hq9]; exact ⟨rfl, rfl, rfl, Nat.le_refl _, fun _ _ => rfl⟩
          have hB9 : Below w.heap.size w w9 := hB8.trans (hb9.mono hB8.size)
          have Hv2'' := Lib.hid (Hv2'.out.belowSize hb9)
          have Hv8' := Lib.hid (Hv8.out.belowSize hb9)
          clear hq9 hb9 Hv2' Hv8 Hv4 Hv7'
          go_wp2_with fail
          refine (given_any A n c l w9 _ Hf.out.2.1 (Hl.out w9 hB9)).mono ?_
          rintro e w10 ⟨v10, rfl, hv10, hb10⟩
          have hB10 : Below w.heap.size w w10 := hB9.trans (hb10.mono hB9.size)
          obtain ⟨A10, c10, rfl, _, _⟩ := hv10.val
          rw [← Hnx.out] at hv10 ⊢
          have Hv2' := Lib.hid (Hv2''.out.belowSize hb10)
          have Hv8 := Lib.hid (Hv8'.out.belowSize hb10)
          have Hv10 := Lib.hid hv10
          clear hv10 hb10 Hv2'' Hv8'
          go_wp2_with fail
          refine (alike_yes A8 A10 n n c8 c10 _ w10 _ _ (by have := Hf.out.2.1; have := Hnx.out; omega) Hv8.out Hv10.out).mono ?_
          rintro e w11 ⟨rfl, q11, hq11⟩
          have hb11 : Below w10.heap.size w10 w11 := by rw [hq11]; exact ⟨rfl, rfl, rfl, Nat.le_refl _, fun _ _ => rfl⟩
          have hB11 : Below w.heap.size w w11 := hB10.trans (hb11.mono hB10.size)
          have Hv2'' := Lib.hid (Hv2'.out.belowSize hb11)
          clear hq11 hb11 Hv2' Hv8 Hv10
          go_wp2_with fail
          refine (given_any A n c l w11 _ Hf.out.2.1 (Hl.out w11 hB11)).mono ?_
          rintro e w12 ⟨v12, rfl, hv12, hb12⟩
          have hB12 : Below w.heap.size w w12 := hB11.trans (hb12.mono hB11.size)
          obtain ⟨A12, c12, rfl, _, _⟩ := hv12.val
          rw [← Hnx.out] at hv12 ⊢
          have Hv2' := Lib.hid (Hv2''.out.belowSize hb12)
          have Hv12 := Lib.hid hv12
          clear hv12 hb12 Hv2''
          go_wp2_with fail
          refine (weight_ok A12 n c12 l w12 _ Hf.out Hv12.out).mono ?_
          rintro e w13 ⟨rfl, hb13⟩
          have hB13 : Below w.heap.size w w13 := hB12.trans (hb13.mono hB12.size)
          have Hv2'' := Lib.hid (Hv2'.out.belowSize hb13)
          clear hb13 Hv2' Hv12
          go_wp2_with fail
          refine (weight_ok A2 n c2 _ w13 _ Hfx.out Hv2''.out).mono ?_
          rintro e w14 ⟨rfl, hb14⟩
          have hB14 : Below w.heap.size w w14 := hB13.trans (hb14.mono hB13.size)
          clear hb14 Hv2''
          rw [(sum_twist a b l).1, (sum_twist a b l).2]
          obtain ⟨m1, m2, m3, m4, m5, m6⟩ := weight_wraps (mayB_far Hf.out.1).1 Hall.out h2 h3 h4 h5
          generalize sumX l = sx at *
          generalize sumY l = sy at *
          go_wp2_with fail
          go_ret
          exact ⟨rfl, hB14⟩

theorem plane_any (A : Option Addr) (n c : Nat) (a b : Int) (l : List Spot) (w : World) (S : Nat → Prop) (hreach : l.length * 40 ≤ 140737488351232)
    (hpath : ∀ s ∈ l, s.path.length * 16 ≤ 140737488351232) (hl : SlV rSpot w S l (.slice A n c)) :
    Calls Try.prog 4 #[.slice A n c, .int .i64 a, .int .i64 b] w fun e w' => e = .returned (.bool true) ∧ Below w.heap.size w w' := by
  have hnx := hl.n_eq
  by_cases h : twistOk l a b = true
  · have h' := h
    simp only [twistOk, smallB, Bool.and_eq_true, decide_eq_true_eq] at h'
    exact plane_yes A n c a b l w S ⟨h'.1, hreach, hpath⟩ h'.2.1.1.1 h'.2.1.1.2 h'.2.1.2 h'.2.2 hl
  · exact plane_no A n c a b l w S (by omega) (by simpa using h) hl
end Go.Proofs.Ytkpbnbnfgadkcaa
