/-
  Sets of versions folded by the document: ends, Folded, walked.
-/
import Derived.Test.YtghihopmiagcpaaGreatDoorSpanF
import Derived.Test.YtghihopmiagcpaaGreatDoorSpanG
set_option autoImplicit false
set_option relaxedAutoImplicit false
set_option linter.unusedVariables false
set_option linter.unusedSimpArgs false
namespace Go.Proofs.YtghihopmiagcpaaGreatDoor
open Go.Rows Go.RowKit Go.Shelf Go.Sort

theorem slvI_some {w : World} {S : Nat → Prop} {l : List Int} {v : Value} (h : SlV rInt w S l v) (h0 : 0 < l.length) : ∃ b o c, v = .slice (some ⟨b, o, none⟩) l.length c := by
  obtain ⟨A, c, rfl, _, _⟩ := h.val
  obtain ⟨b, o, _, he, _⟩ := h.elem (List.getElem?_eq_getElem h0)
  exact ⟨b, o, c, by rw [he]⟩
theorem addF_len (l : List Int) (n : Int) : l.length ≤ (addF l n).length ∧ (addF l n).length ≤ l.length + 1 := by
  unfold addF
  split
  · omega
  · have := congrArg List.length (List.takeWhile_append_dropWhile (p := fun m => decide (m < n)) (l := l))
    rw [List.length_append] at this
    rw [List.length_append, List.length_cons]
    omega
theorem endsF_len : ∀ (a : List Rk) (l : List Int), l.length ≤ (endsF l a).length ∧ (endsF l a).length ≤ l.length + 2 * a.length := by
  intro a
  induction a with
  | nil => intro l; exact ⟨Nat.le_refl _, Nat.le_refl _⟩
  | cons x a ih =>
    intro l
    have e : endsF l (x :: a) = endsF (addF (addF l x.1) (x.2 + 1)) a := rfl
    rw [e, List.length_cons]
    have h1 := ih (addF (addF l x.1) (x.2 + 1))
    have h2 := addF_len l x.1
    have h3 := addF_len (addF l x.1) (x.2 + 1)
    omega
theorem endsF_take {a : List Rk} {k : Nat} (h : k < a.length) (l : List Int) : endsF l (a.take (k + 1)) = addF (addF (endsF l (a.take k)) a[k].1) (a[k].2 + 1) := by
  rw [List.take_succ_eq_append_getElem h]
  unfold endsF
  rw [List.foldl_append]
  rfl

set_option maxHeartbeats 4000000 in
set_option maxRecDepth 100000 in
theorem ends_any (b o n c : Nat) (A : Option Addr) (m d : Nat) (l : List Int) (a : List Spn) (w : World) (S T : Nat → Prop) (hs : l.Pairwise (· < ·)) (h0 : 0 < l.length) (hmax : l.length + 2 * a.length ≤ 1000000)
    (hl : SlV rInt w S l (.slice (some ⟨b, o, none⟩) n c)) (ha : SlV rSpn w T a (.slice A m d)) :
    Calls Tryz.prog 73 #[.slice (some ⟨b, o, none⟩) n c, .slice A m d] w fun e w' => ∃ v, e = .returned v ∧ SlV rInt w' (fun _ => True) (endsF l (rks a)) v ∧ Below w.heap.size w w' := by
  have hny := ha.n_eq
  have hn63 : m ≤ 1000000 := by omega
  have HX := Lib.hid (hl.more (S' := fun _ => True) fun b _ _ => trivial)
  have HY := Lib.hid (ha.more (S' := fun b => b < w.heap.size) fun b _ hlt => hlt)
  have Hs := Lib.hid hs
  have Hmax := Lib.hid hmax
  have Hny := Lib.hid hny
  have H0 := Lib.hid h0
  clear hl ha hs hmax hny h0
  go_enter Tryz.func73, Tryz.ntmps73
  go_wp2_with fail
  go_loopw [0, 5] (fun v i wr => ∃ (k : Nat), k ≤ m ∧ i = .int .i64 k ∧ Hid (SlV rInt wr (fun _ => True) (endsF l ((rks a).take k)) v) ∧ Hid (Below w.heap.size w wr)) (fun _ i _ => m - (intOf i).toNat)
  case atStart => exact ⟨0, Nat.zero_le _, rfl, HX, Below.refl _ _⟩
  case round =>
    obtain ⟨k, hk, rfl, HV, HB⟩ := hrel
    by_cases hlt : k < m
    case neg =>
      have hlt' : ¬ (k : Int) < (m : Int) := by omega
      have HV2 := Lib.hid HV.out
      rw [List.take_of_length_le (by rw [rks_len]; have := Hny.out; omega)] at HV2
      go_wp2_with fail
      go_ret
      exact ⟨_, rfl, HV2.out, HB.out⟩
    have hkx : k < a.length := by have := Hny.out; omega
    have hkI : (k : Int) < (m : Int) := by omega
    have hk0 : (0 : Int) ≤ (k : Int) := by omega
    obtain ⟨b1, o1, cs1, rfl, hSb, _, ⟨rfl, _, _, _, _, _, _⟩, hcell⟩ := HY.out.elem (List.getElem?_eq_getElem hkx)
    have k0 := hcell 0 _ rfl
    have k1 := hcell 1 _ rfl
    have k2 := hcell 2 _ rfl
    have k3 := hcell 3 _ rfl
    have k4 := hcell 4 _ rfl
    have k5 := hcell 5 _ rfl
    simp only [rSpn, Nat.add_zero, Nat.mul_one] at k0 k1 k2 k3 k4 k5
    have Hst := Lib.hid (endsF_take (a := rks a) (l := l) (by rw [rks_len]; exact hkx))
    rw [rks_at hkx] at Hst
    have hsrt := endsF_sorted (a := (rks a).take k) Hs.out
    obtain ⟨hg1, hg2⟩ := endsF_len ((rks a).take k) l
    rw [List.length_take, rks_len] at hg2
    have c0 := below_cell HB.out k0 hSb
    have c1 := below_cell HB.out k1 hSb
    have c2 := below_cell HB.out k2 hSb
    have HK3 := Lib.hid k3
    have HK4 := Lib.hid k4
    have HK5 := Lib.hid k5
    clear k0 k1 k2 k3 k4 k5 hcell
    generalize a[k] = s at *
    obtain ⟨⟨x1, x2, x3⟩, ⟨x4, x5, x6⟩⟩ := s
    simp only [Ver.rank] at c0 c1 c2 HK3 HK4 HK5 Hst
    generalize endsF l ((rks a).take k) = L at *
    have Hsrt := Lib.hid hsrt
    have hL0 : 0 < L.length := by have := H0.out; omega
    have hLm : L.length + 2 ≤ 1000000 := by have := Hmax.out; omega
    obtain ⟨vb, vo, vc, rfl⟩ := slvI_some HV.out hL0
    obtain ⟨p1, p2⟩ := rankR_bounds x1 x2 x3
    obtain ⟨q1, q2⟩ := rankR_bounds x4 x5 x6
    have H1 := Lib.hid (fun W => refRank_any x1 x2 x3 W)
    have H2 := Lib.hid (fun W => refRank_any x4 x5 x6 W)
    generalize rankR x1 x2 x3 = r1 at *
    generalize rankR x4 x5 x6 = r2 at *
    have hw2 : IntKind.i64.wrap (r2 + 1) = r2 + 1 := IntWalk.i64_in _ ⟨by omega, by omega⟩
    have ha1 := addF_len L r1
    have HI1 : Hid (I64 r1) := by unfold Hid I64; omega
    have HI2 : Hid (I64 (r2 + 1)) := by unfold Hid I64; omega
    have Hg := Lib.hid (show 0 < L.length ∧ L.length + 2 ≤ 1000000 ∧ L.length ≤ (addF L r1).length ∧ (addF L r1).length ≤ L.length + 1 from ⟨hL0, hLm, ha1.1, ha1.2⟩)
    clear hL0 hLm ha1 hsrt hg1 hg2
    obtain ⟨ln, hln⟩ : ∃ ln, ln = L.length := ⟨_, rfl⟩
    rw [← hln] at HV
    rw [← hln]
    clear hln
    go_wp2_with fail
    refine (H1.out _).mono ?_
    rintro e w1 ⟨rfl, hb1⟩
    have HB1 := Lib.hid (bot HB.out hb1)
    have HV1 := Lib.hid (HV.out.belowSize hb1)
    clear hb1 c0 c1 c2 H1 HV
    go_wp2_with fail
    refine (added_any vb vo ln vc L r1 w1 _ Hsrt.out HI1.out (by have := Hg.out; omega) Hg.out.1 HV1.out).mono ?_
    rintro e w2 ⟨v2, rfl, hv2, hb2⟩
    obtain ⟨ub, uo, uc, rfl⟩ := slvI_some hv2 (by have := Hg.out; omega)
    have HB2 := Lib.hid (bot HB1.out hb2)
    have HV2 := Lib.hid hv2
    have c3 := below_cell HB2.out HK3.out hSb
    have c4 := below_cell HB2.out HK4.out hSb
    have c5 := below_cell HB2.out HK5.out hSb
    have Hsrt2 := Lib.hid (addF_sorted Hsrt.out r1)
    clear hb2 hv2 HV1
    generalize addF L r1 = L2 at *
    obtain ⟨ln2, hln2⟩ : ∃ ln2, ln2 = L2.length := ⟨_, rfl⟩
    rw [← hln2] at HV2
    rw [← hln2]
    clear hln2
    go_wp2_with fail
    refine (H2.out _).mono ?_
    rintro e w3 ⟨rfl, hb3⟩
    have HB3 := Lib.hid (bot HB2.out hb3)
    have HV3 := Lib.hid (HV2.out.belowSize hb3)
    clear hb3 c3 c4 c5 H2 HV2
    go_wp2_with fail
    refine (added_any ub uo ln2 uc L2 (r2 + 1) w3 _ Hsrt2.out HI2.out (by have := Hg.out; omega) (by have := Hg.out; omega) HV3.out).mono ?_
    rintro e w4 ⟨v4, rfl, hv4, hb4⟩
    have HB4 := Lib.hid (bot HB3.out hb4)
    have HV4 := Lib.hid hv4
    rw [← Hst.out] at HV4
    clear hb4 hv4 HV3
    go_wp2_with fail
    go_roundw
    case rel => exact ⟨k + 1, by omega, by go_num, HV4, HB4⟩
    case measure => simp [intOf]; omega

theorem heap_set1 {W : World} {b o : Nat} {cs : Array Value} {t : TypeId} {fr : Nat × Nat} (h : W.heap[b]? = some (.cells cs t fr)) (v : Value) : (W.setCell ⟨b, o, none⟩ v).heap[b]? = some (.cells (cs.setIfInBounds o v) t fr) := by
  obtain ⟨hlt, hk⟩ := Array.getElem?_eq_some_iff.1 h
  show (W.heap.modify b _)[b]? = _
  rw [Array.getElem?_eq_getElem (by rw [Array.size_modify]; exact hlt), Array.getElem_modify_self, hk]
  rfl
theorem heap_set3 {W : World} {b : Nat} {x y z : Value} {t : TypeId} (h : W.heap[b]? = some (.cells #[x, y, z] t (0, 0))) (a1 a2 a3 : Value) :
    (((W.setCell ⟨b, 0, none⟩ a1).setCell ⟨b, 1, none⟩ a2).setCell ⟨b, 2, none⟩ a3).heap[b]? = some (.cells #[a1, a2, a3] t (0, 0)) := heap_set1 (heap_set1 (heap_set1 h a1) a2) a3
theorem lt_set3 {W : World} {b n : Nat} (h : n < W.heap.size) (a1 a2 a3 : Value) : n < (((W.setCell ⟨b, 0, none⟩ a1).setCell ⟨b, 1, none⟩ a2).setCell ⟨b, 2, none⟩ a3).heap.size := by
  simpa [World.setCell] using h

set_option maxRecDepth 100000 in
theorem refAt02_any (n : Int) (h0 : 0 ≤ n) (h1 : n ≤ 999999999) (w : World) :
    Calls Tryz.prog 80 #[.int .i64 n] w fun e w' => e = .returned (.tuple #[.agg #[.int .i64 (n / 1000000), .int .i64 (n / 1000 % 1000), .int .i64 (n % 1000)], .bool true]) ∧ Below w.heap.size w w' := by
  have h2 : ¬ n < 0 := by omega
  have h3 : ¬ 999999999 < n := by omega
  have q0 : 0 ≤ n / 1000 := by omega
  go_enter Tryz.func80, Tryz.ntmps80
  go_wp2_with fail
  refine bodyPost_ret (v := .tuple #[.agg #[.int .i64 (n / 1000000), .int .i64 (n / 1000 % 1000), .int .i64 (n % 1000)], .bool true]) (by simp [results, Tryz.results80, go_sem]) rfl ⟨rfl, ?_⟩
  exact bal (Below.refl _ _) _

set_option maxRecDepth 100000 in
theorem refAt03_any (n : Int) (h0 : 0 ≤ n) (h1 : n ≤ 999999999) (w : World) :
    Calls Tryz.prog 63 #[.int .i64 n] w fun e w' => e = .returned (.agg #[.int .i64 (n / 1000 / 1000), .int .i64 (n / 1000 % 1000), .int .i64 (n % 1000)]) ∧ Below w.heap.size w w' := by
  have H1 := Lib.hid (fun W => refAt02_any n h0 h1 W)
  have he : n / 1000000 = n / 1000 / 1000 := by omega
  rw [he] at H1
  clear h0 h1 he
  generalize n / 1000 / 1000 = a1 at *
  generalize n / 1000 % 1000 = a2 at *
  generalize n % 1000 = a3 at *
  go_enter Tryz.func63, Tryz.ntmps63
  go_wp2_with fail
  refine (H1.out _).mono ?_
  rintro e w1 ⟨rfl, hb1⟩
  have c0 := hb1.cell (p := ⟨w.heap.size, 0, none⟩) (by simp)
  have c1 := hb1.cell (p := ⟨w.heap.size, 1, none⟩) (by simp)
  have c2 := hb1.cell (p := ⟨w.heap.size, 2, none⟩) (by simp)
  have f0 := hb1.frozen (p := ⟨w.heap.size, 0, none⟩) (by simp)
  have f1 := hb1.frozen (p := ⟨w.heap.size, 1, none⟩) (by simp)
  have f2 := hb1.frozen (p := ⟨w.heap.size, 2, none⟩) (by simp)
  simp [go_sem] at c0 c1 c2 f0 f1 f2
  have hz1 : w.heap.size < w1.heap.size := by have := hb1.size; simp at this; omega
  have hne : w.heap.size ≠ w1.heap.size := by omega
  have HB1 := Lib.hid (bnew hb1)
  have hrow : w1.heap[w.heap.size]? = some (.cells #[.int .i64 0, .int .i64 0, .int .i64 0] 24 (0, 0)) := (hb1.block w.heap.size (by simp)).trans (heap_alloc_new w _)
  clear hb1
  go_wp2_with fail
  refine bodyPost_ret (results_cell_row (P := Tryz.prog) rfl _ _ w.heap.size _ _ _ _ rfl (by
    rw [Lib.alloc_old _ _ _ (lt_set3 hz1 _ _ _)]
    exact heap_set3 hrow _ _ _) Tryz.underlying24 rfl (by kernel_rfl)) rfl ⟨rfl, ?_⟩
  exact bal (((HB1.out.setCell (Nat.le_refl _) _).setCell (Nat.le_refl _) _).setCell (Nat.le_refl _) _) _

set_option maxRecDepth 100000 in
theorem wanted_any (kind : Nat) (hk : kind = 109 ∨ kind = 106 ∨ kind = 99) (x y : Bool) (w : World) :
    Calls Tryz.prog 74 #[.int .u8 (kind : Int), .bool x, .bool y] w fun e w' => e = .returned (.bool (wantB kind x y)) ∧ Below w.heap.size w w' := by
  rcases hk with rfl | rfl | rfl <;> cases x <;> cases y <;>
  · go_enter Tryz.func74, Tryz.ntmps74
    go_wp2_with fail
    go_ret
    exact ⟨rfl, Below.refl _ _⟩
end Go.Proofs.YtghihopmiagcpaaGreatDoor
