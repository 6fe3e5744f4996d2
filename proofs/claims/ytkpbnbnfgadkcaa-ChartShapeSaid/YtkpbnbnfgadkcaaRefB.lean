/-
  The document's Twist, Turn and Flip: what they answer.
-/
import Derived.Test.YtkpbnbnfgadkcaaRefA
namespace Go.Proofs.Ytkpbnbnfgadkcaa
open Go.RowKit
set_option linter.unusedVariables false
set_option linter.unusedSimpArgs false

theorem wrap_small {n : Int} (h : n.natAbs < 2 ^ 53) : IntKind.i64.wrap n = n := by
  rw [show (2 : Nat) ^ 53 = 9007199254740992 from by decide] at h
  exact IntWalk.i64_in _ (by omega)

/-- the parts of a product of small numbers: none wraps -/
theorem mul_parts {x y u v : Int} (hx : x.natAbs ≤ 1099511627776) (hy : y.natAbs ≤ 1099511627776) (hu : u.natAbs ≤ 1024) (hv : v.natAbs ≤ 1024) :
    IntKind.i64.wrap (x * u) = x * u ∧ IntKind.i64.wrap (y * v) = y * v ∧ IntKind.i64.wrap (x * u - y * v) = x * u - y * v ∧
    IntKind.i64.wrap (x * v) = x * v ∧ IntKind.i64.wrap (y * u) = y * u ∧ IntKind.i64.wrap (x * v + y * u) = x * v + y * u := by
  have h1 : (x * u).natAbs < 1125899906842625 := natAbs_mul_lt hx hu (by omega)
  have h2 : (y * v).natAbs < 1125899906842625 := natAbs_mul_lt hy hv (by omega)
  have h4 : (x * v).natAbs < 1125899906842625 := natAbs_mul_lt hx hv (by omega)
  have h5 : (y * u).natAbs < 1125899906842625 := natAbs_mul_lt hy hu (by omega)
  generalize x * u = A at *
  generalize y * v = B at *
  generalize x * v = C at *
  generalize y * u = D at *
  refine ⟨IntWalk.i64_in _ (by omega), IntWalk.i64_in _ (by omega), IntWalk.i64_in _ (by omega), IntWalk.i64_in _ (by omega), IntWalk.i64_in _ (by omega), IntWalk.i64_in _ (by omega)⟩

theorem elem_same {w : World} {S : Nat → Prop} {path : List ByteArray} {q : Value} {X Y : Int} (hq : SlV rStr w S path q) (h : X.natAbs < 2 ^ 53 ∧ Y.natAbs < 2 ^ 53) :
    Hid (rSpot.holds w S ⟨path, X, Y⟩ [q, .int .i64 X, .int .i64 Y]) := ⟨q, rfl, hq, i64_of_53 h.1, i64_of_53 h.2⟩

set_option maxHeartbeats 1000000 in
theorem refTwist_ok (A : Option Addr) (n c : Nat) (a b : Int) (l : List Spot) (w : World) (S : Nat → Prop) (hreach : l.length * 40 ≤ 140737488351232)
    (h2 : -1024 ≤ a) (h3 : a ≤ 1024) (h4 : -1024 ≤ b) (h5 : b ≤ 1024) (hm : mayB l = true) (hl : SlV rSpot w S l (.slice A n c)) :
    Calls Try.prog 8 #[.slice A n c, .int .i64 a, .int .i64 b] w (Drawn w (some (l.map (twistF a b)))) := by
  have hnx := hl.n_eq
  have hn63 : n ≤ 9223372036854775807 := by omega
  have Hc := Lib.hid (refMay_any A n c l w S hn63 hl)
  rw [hm] at Hc
  have hl' := hl.more (S' := fun b => S b ∧ b < w.heap.size) fun b hb hlt => ⟨hb, hlt⟩
  have Hnx := Lib.hid hnx; clear hnx
  have hfar := (mayB_far hm).2
  have Hfar := Lib.hid hfar; clear hfar
  clear hm
  go_enter Try.func8, Try.ntmps8
  go_wp2_with fail
  refine Hc.out.mono ?_
  rintro e w1 ⟨rfl, rfl⟩
  go_wp2_with fail
  go_loopw [8, 9] (fun v i wr => ∃ k : Nat, k ≤ n ∧ i = .int .i64 k ∧ Own rSpot wr w.heap.size 40 v ((l.take k).map (twistF a b)) (fun b => S b ∧ b < w.heap.size) ∧ Below w.heap.size w wr) (fun _ i _ => n - (intOf i).toNat)
  case atStart => exact ⟨0, Nat.zero_le _, rfl, Own.nil_ _ _ _ _ (fun b hb => hb.2), Below.refl _ _⟩
  case round =>
    obtain ⟨k, hk, rfl, hown, hbel⟩ := hrel
    by_cases hlt : k < n
    · have hkx : k < l.length := by have := Hnx.out; omega
      have hlw := hl'.below hbel (fun b hb => hb.2)
      obtain ⟨pb, po, cs, rfl, hSb, hb1, hsp, hcell⟩ := hlw.elem (List.getElem?_eq_getElem hkx)
      obtain ⟨p, rfl, hp, hx, hy⟩ := hsp
      obtain ⟨pA, pc, rfl, _, _⟩ := hp.val
      have hc0 := hcell 0 _ rfl
      have hc1 := hcell 1 _ rfl
      have hc2 := hcell 2 _ rfl
      simp only [rSpot, Nat.add_zero] at hc0 hc1 hc2
      obtain ⟨hf1, hf2⟩ := Hfar.out l[k] (List.getElem_mem hkx)
      obtain ⟨m1, m2, m3, m4, m5, m6⟩ := mul_parts hf1 hf2 (u := a) (v := b) (by omega) (by omega)
      have he := elem_same (S := fun b => S b ∧ b < w.heap.size) hp (mul_far hf1 hf2 (u := a) (v := b) (by omega) (by omega))
      have Htk : Hid ((l.take (k + 1)).map (twistF a b) = (l.take k).map (twistF a b) ++ [twistF a b l[k]]) := by
        unfold Hid; rw [List.take_succ_eq_append_getElem hkx, List.map_append]; rfl
      have hlen : ((l.take k).map (twistF a b)).length = k := by simp; omega
      have Hlen := Lib.hid hlen; clear hlen
      generalize ((l.take k).map (twistF a b)) = done at *
      have hkn : (k : Int) < (n : Int) := by omega
      have hfar : some pb ≠ u8.ownBlock := fun he => by have := (hown.lt pb he.symm).1; have := hSb.2; omega
      have Hfarb := Lib.hid hfar; clear hfar
      have Hown := Lib.hid hown; clear hown
      generalize l[k] = s at *
      obtain ⟨path, x, y⟩ := s
      clear hp hx hy hcell hlw hf1 hf2
      simp only at hc0 hc1 hc2 m1 m2 m3 m4 m5 m6 Htk he
      generalize path.length = pn at *
      go_wp2_with fail
      go_region_held3 (fun w' => w'.cell? ⟨pb, po + k * 3, none⟩ = some (.slice pA pn pc) ∧ w'.cell? ⟨pb, po + k * 3 + 1, none⟩ = some (.int .i64 x) ∧ w'.cell? ⟨pb, po + k * 3 + 2, none⟩ = some (.int .i64 y))
        (first | go_keep | exact ⟨hgrow.cell (by go_keep) Hfarb.out, hgrow.cell (by go_keep) Hfarb.out, hgrow.cell (by go_keep) Hfarb.out⟩)
        ((refine step_push (by rfl) _ _ _ (by rfl) elt_refspot Try.underlying22 (by rfl) ((Hown.out.alloc _).drew) ⟨wr.heap.size, 0, none⟩ 1 [.slice pA pn pc, .int .i64 (x * a - y * b), .int .i64 (x * b + y * a)] ⟨path, x * a - y * b, x * b + y * a⟩ (by rfl) (Rp.drew (Rp.alloc he.out _))
            (news_of wr #[.slice pA pn pc, .int .i64 (x * a - y * b), .int .i64 (x * b + y * a)] _) (by rw [Hlen.out]; simp [maxLen]; omega) (by rw [Hlen.out]; omega) (by simp; exact Nat.le_succ_of_le hbel.size) (wr.heap.size + 1) (by simp) ?_; intro g cap w1 hown1 hgrow hat hg1))
      clear m1 m2 m3 m4 m5 m6
      rw [Hlen.out] at hown1
      go_wp2
      rw [Hlen.out]
      go_roundw
      case rel => exact ⟨k + 1, by omega, by go_num, by rw [show List.map (twistF a b) (List.take (k + 1) l) = _ from Htk.out]; exact hown1, ((hbel.alloc hbel.size _).drew).grown hgrow (by simp; exact Nat.le_succ_of_le hbel.size) (fun g' hg' => (Hown.out.lt g' hg').1)⟩
      case measure => simp [intOf]; omega
    · go_wp2
      go_ret2
      have hkn : k = l.length := by have := Hnx.out; omega
      have hsl := hown.slv
      rw [hkn, List.take_length] at hsl
      exact ⟨_, rfl, hsl.more (fun _ _ _ => trivial), hbel⟩

theorem refTwist_no (A : Option Addr) (n c : Nat) (a b : Int) (l : List Spot) (w : World) (S : Nat → Prop) (hn63 : n ≤ 9223372036854775807)
    (h : twistOk l a b = false) (hl : SlV rSpot w S l (.slice A n c)) :
    Calls Try.prog 8 #[.slice A n c, .int .i64 a, .int .i64 b] w (Drawn w none) := by
  have Hc := Lib.hid (refMay_any A n c l w S hn63 hl)
  clear hl
  by_cases hm : mayB l = true
  · have hs : smallB a b = false := by simpa [twistOk, hm] using h
    rw [hm] at Hc
    clear h hm
    have hs' : a < -1024 ∨ (¬ a < -1024 ∧ 1024 < a) ∨ (¬ a < -1024 ∧ ¬ 1024 < a ∧ b < -1024) ∨ (¬ a < -1024 ∧ ¬ 1024 < a ∧ ¬ b < -1024 ∧ 1024 < b) := by
      simp [smallB] at hs; omega
    clear hs
    rcases hs' with h1 | ⟨h1, h2⟩ | ⟨h1, h2, h3⟩ | ⟨h1, h2, h3, h4⟩
    all_goals
      go_enter Try.func8, Try.ntmps8
      go_wp2_with fail
      refine Hc.out.mono ?_
      rintro e w1 ⟨rfl, rfl⟩
      go_wp2
      go_ret2
      exact ⟨_, rfl, SlV.nil_ _ _ _, Below.refl _ _⟩
  · rw [Bool.not_eq_true] at hm
    rw [hm] at Hc
    clear h hm
    go_enter Try.func8, Try.ntmps8
    go_wp2_with fail
    refine Hc.out.mono ?_
    rintro e w1 ⟨rfl, rfl⟩
    go_wp2
    go_ret2
    exact ⟨_, rfl, SlV.nil_ _ _ _, Below.refl _ _⟩

theorem refTwist_any (A : Option Addr) (n c : Nat) (a b : Int) (l : List Spot) (w : World) (S : Nat → Prop) (hreach : l.length * 40 ≤ 140737488351232)
    (hl : SlV rSpot w S l (.slice A n c)) :
    Calls Try.prog 8 #[.slice A n c, .int .i64 a, .int .i64 b] w (Drawn w (twistR l a b)) := by
  have hnx := hl.n_eq
  unfold twistR
  by_cases h : twistOk l a b = true
  · rw [if_pos h]
    have h' := h
    simp only [twistOk, smallB, Bool.and_eq_true, decide_eq_true_eq] at h'
    exact refTwist_ok A n c a b l w S hreach h'.2.1.1.1 h'.2.1.1.2 h'.2.1.2 h'.2.2 h'.1 hl
  · rw [if_neg h]
    exact refTwist_no A n c a b l w S (by omega) (by simpa using h) hl

end Go.Proofs.Ytkpbnbnfgadkcaa
