/-
  May of a list of spans: the program's and the document's, walked.
-/
import Derived.Test.YtghihopmiagcpaaGreatDoorVers
import Derived.Lib.Join
set_option autoImplicit false
set_option relaxedAutoImplicit false
set_option linter.unusedVariables false
set_option linter.unusedSimpArgs false
namespace Go.Proofs.YtghihopmiagcpaaGreatDoor
open Go.Rows Go.RowKit Go.Shelf Go.Sort

theorem spanGo_at {le : Int} {l : List Spn} {k : Nat} (h : k < l.length) : spanGo le (l.drop k) =
    ((verB l[k].lo.major l[k].lo.minor l[k].lo.patch && verB l[k].hi.major l[k].hi.minor l[k].hi.patch && decide (le ≤ rankR l[k].lo.major l[k].lo.minor l[k].lo.patch) &&
      decide (rankR l[k].lo.major l[k].lo.minor l[k].lo.patch ≤ rankR l[k].hi.major l[k].hi.minor l[k].hi.patch)) && spanGo (rankR l[k].hi.major l[k].hi.minor l[k].hi.patch + 2) (l.drop (k + 1))) := by
  rw [List.drop_eq_getElem_cons h]; rfl
theorem spansB_big {l : List Spn} (h : ¬ l.length ≤ 64) : spansB l = false := by simp [spansB, h]
theorem spansB_small {l : List Spn} (h : l.length ≤ 64) : spansB l = spanGo 0 l := by simp [spansB, h]

set_option maxHeartbeats 1000000 in
theorem spanMay_any (A : Option Addr) (n c : Nat) (l : List Spn) (w : World) (S : Nat → Prop) (hl : SlV rSpn w S l (.slice A n c)) :
    Calls Tryz.prog 12 #[.slice A n c] w fun e w' => e = .returned (.bool (spansB l)) ∧ Below w.heap.size w w' := by
  have hnx := hl.n_eq
  by_cases h64 : n ≤ 64
  · have Hs : Hid (spansB l = spanGo 0 l) := spansB_small (by omega)
    have hl' := hl.more (S' := fun b => b < w.heap.size) fun b _ hlt => hlt
    have Hnx := Lib.hid hnx; clear hnx
    clear hl
    generalize spansB l = r at *
    go_enter Tryz.func12, Tryz.ntmps12
    go_wp2_with fail
    go_loopw [3, 15] (fun t i wr => ∃ (k : Nat) (le : Int), k ≤ n ∧ i = .int .i64 k ∧ t = .int .i64 le ∧ (0 ≤ le ∧ le ≤ 1000000001) ∧ Hid (spanGo 0 l = spanGo le (l.drop k)) ∧ Below w.heap.size w wr) (fun _ i _ => n - (intOf i).toNat)
    case atStart => exact ⟨0, 0, Nat.zero_le _, rfl, rfl, by omega, by simp [Hid], Below.refl _ _⟩
    case round =>
      obtain ⟨k, le, hk, rfl, rfl, ⟨hle0, hle1⟩, hgo, hbel⟩ := hrel
      by_cases hlt : k < n
      · have hkx : k < l.length := by have := Hnx.out; omega
        have hlw := hl'.below hbel (fun b hb => hb)
        obtain ⟨b, o, cs, rfl, hSb, hbl, hsp, hcell⟩ := hlw.elem (List.getElem?_eq_getElem hkx)
        obtain ⟨rfl, _, _, _, _, _, _⟩ := hsp
        have c0 := hcell 0 _ rfl
        have c1 := hcell 1 _ rfl
        have c2 := hcell 2 _ rfl
        have c3 := hcell 3 _ rfl
        have c4 := hcell 4 _ rfl
        have c5 := hcell 5 _ rfl
        simp only [rSpn, Nat.add_zero, Nat.mul_one] at c0 c1 c2 c3 c4 c5
        clear hcell
        have Hgo := Lib.hid (spanGo_at (le := le) hkx)
        clear hlw
        have hkn : (k : Int) < (n : Int) := by omega
        generalize l[k] = s at *
        obtain ⟨⟨x1, x2, x3⟩, ⟨x4, x5, x6⟩⟩ := s
        simp only at c0 c1 c2 c3 c4 c5
        have H1 := Lib.hid (fun W => versRank_any x1 x2 x3 W)
        have H2 := Lib.hid (fun W => versRank_any x4 x5 x6 W)
        obtain ⟨p1, p2⟩ := rankR_bounds x1 x2 x3
        obtain ⟨q1, q2⟩ := rankR_bounds x4 x5 x6
        generalize hr1 : rankR x1 x2 x3 = r1 at *
        generalize hr2 : rankR x4 x5 x6 = r2 at *
        generalize hv1 : verB x1 x2 x3 = v1 at *
        generalize hv2 : verB x4 x5 x6 = v2 at *
        have Hgo' : Hid (spanGo le (l.drop k) = ((v1 && v2 && decide (le ≤ r1) && decide (r1 ≤ r2)) && spanGo (r2 + 2) (l.drop (k + 1)))) := by
          have := Hgo.out; try simp only [hr1, hr2, hv1, hv2] at this
          exact this
        clear Hgo hr1 hr2 hv1 hv2
        go_wp2_with fail
        refine (H1.out _).mono ?_
        rintro e w1 ⟨rfl, hb1⟩
        have e3 := hb1.cell (p := ⟨wr.heap.size, 3, none⟩) (by simp)
        have e4 := hb1.cell (p := ⟨wr.heap.size, 4, none⟩) (by simp)
        have e5 := hb1.cell (p := ⟨wr.heap.size, 5, none⟩) (by simp)
        simp [go_sem] at e3 e4 e5
        have B1 := bot hbel (bnew hb1)
        clear hb1 hbel
        go_wp2_with fail
        refine (H2.out _).mono ?_
        rintro e w2 ⟨rfl, hb2⟩
        have B2 := bot B1 hb2
        clear hb2 B1 e3 e4 e5 c0 c1 c2 c3 c4 c5
        have Hend : Hid ((v1 && v2 && decide (le ≤ r1) && decide (r1 ≤ r2)) = false → r = false) := fun h => by rw [Hs.out, hgo.out, Hgo'.out, h]; rfl
        have Hon : Hid ((v1 && v2 && decide (le ≤ r1) && decide (r1 ≤ r2)) = true → spanGo 0 l = spanGo (r2 + 2) (l.drop (k + 1))) := fun h => by rw [hgo.out, Hgo'.out, h, Bool.true_and]
        clear hgo Hgo'
        cases v1
        · go_wp2_with fail
          go_ret
          exact ⟨ret_bool (Hend.out rfl).symm, B2⟩
        · cases v2
          · go_wp2_with fail
            go_ret
            exact ⟨ret_bool (Hend.out rfl).symm, B2⟩
          · by_cases g1 : r1 < le
            · have He := Lib.hid (Hend.out (by simp; omega))
              go_wp2_with fail
              go_ret
              exact ⟨ret_bool He.out.symm, B2⟩
            · by_cases g2 : r2 < r1
              · have He := Lib.hid (Hend.out (by simp; omega))
                go_wp2_with fail
                go_ret
                exact ⟨ret_bool He.out.symm, B2⟩
              · have He := Lib.hid (Hon.out (by simp; omega))
                go_wp2_with fail
                go_roundw
                case rel => exact ⟨k + 1, r2 + 2, by omega, by go_num, rfl, by omega, He, B2⟩
                case measure => simp [intOf]; omega
      · have He : Hid (r = true) := by
          unfold Hid
          rw [Hs.out, hgo.out, List.drop_eq_nil_of_le (by have := Hnx.out; omega)]; rfl
        go_wp2_with fail
        go_ret
        exact ⟨ret_bool He.out.symm, hbel⟩
  · have Hs : Hid (spansB l = false) := spansB_big (by omega)
    clear hnx hl
    generalize spansB l = r at *
    have h64' : (64 : Int) < (n : Int) := by omega
    go_enter Tryz.func12, Tryz.ntmps12
    go_wp2_with fail
    go_ret
    exact ⟨ret_bool Hs.out.symm, Below.refl _ _⟩

/-- the rank behind which the next span may begin -/
def prevLe (l : List Spn) : Nat → Int
  | 0 => 0
  | q + 1 => (match l[q]? with | some s => rankR s.hi.major s.hi.minor s.hi.patch | none => 0) + 2
theorem prevLe_succ {l : List Spn} {q : Nat} (h : q < l.length) : prevLe l (q + 1) = rankR l[q].hi.major l[q].hi.minor l[q].hi.patch + 2 := by
  simp [prevLe, List.getElem?_eq_getElem h]

set_option maxHeartbeats 2000000 in
set_option maxRecDepth 100000 in
theorem refSpanMay_any (A : Option Addr) (n c : Nat) (l : List Spn) (w : World) (S : Nat → Prop) (hl : SlV rSpn w S l (.slice A n c)) :
    Calls Tryz.prog 13 #[.slice A n c] w fun e w' => e = .returned (.bool (spansB l)) ∧ Below w.heap.size w w' := by
  have hnx := hl.n_eq
  by_cases h64 : n ≤ 64
  · have Hs : Hid (spansB l = spanGo 0 l) := spansB_small (by omega)
    have hl' := hl.more (S' := fun b => b < w.heap.size) fun b _ hlt => hlt
    have Hnx := Lib.hid hnx; clear hnx
    clear hl
    generalize spansB l = r at *
    go_enter Tryz.func13, Tryz.ntmps13
    go_wp2_with fail
    go_loopw [3] (fun i wr => ∃ (k : Nat), k ≤ n ∧ i = .int .i64 k ∧ Hid (spanGo 0 l = spanGo (prevLe l k) (l.drop k)) ∧ Below w.heap.size w wr) (fun i _ => n - (intOf i).toNat)
    case atStart => exact ⟨0, Nat.zero_le _, rfl, by simp [Hid, prevLe], Below.refl _ _⟩
    case round =>
      obtain ⟨k, hk, rfl, hgo, hbel⟩ := hrel
      by_cases hlt : k < n
      · have hkx : k < l.length := by have := Hnx.out; omega
        have hlw := hl'.below hbel (fun b hb => hb)
        have hlw2 := Lib.hid hlw
        have hbw := hbel.size
        obtain ⟨b, o, cs, rfl, hSb, hbl, hsp, hcell⟩ := hlw.elem (List.getElem?_eq_getElem hkx)
        obtain ⟨rfl, _, _, _, _, _, _⟩ := hsp
        have c0 := hcell 0 _ rfl
        have c1 := hcell 1 _ rfl
        have c2 := hcell 2 _ rfl
        have c3 := hcell 3 _ rfl
        have c4 := hcell 4 _ rfl
        have c5 := hcell 5 _ rfl
        simp only [rSpn, Nat.add_zero, Nat.mul_one] at c0 c1 c2 c3 c4 c5
        clear hcell
        have Hgo := Lib.hid (spanGo_at (le := prevLe l k) hkx)
        have Hpv := Lib.hid (prevLe_succ hkx)
        clear hlw
        have hk0 : (0 : Int) ≤ (k : Int) := by omega
        have hkn : (k : Int) < (n : Int) := by omega
        generalize l[k] = s at *
        obtain ⟨⟨x1, x2, x3⟩, ⟨x4, x5, x6⟩⟩ := s
        simp only at c0 c1 c2 c3 c4 c5
        have H1 := Lib.hid (qcall (w := wr) (fun W _ => refVerMay_any x1 x2 x3 W))
        have H2 := Lib.hid (qcall (w := wr) (fun W _ => refVerMay_any x4 x5 x6 W))
        have H3 := Lib.hid (qcall (w := wr) (fun W _ => refRank_any x1 x2 x3 W))
        have H4 := Lib.hid (qcall (w := wr) (fun W _ => refRank_any x4 x5 x6 W))
        have H5 := Lib.hid (fun W => refRank_any x1 x2 x3 W)
        obtain ⟨p1, p2⟩ := rankR_bounds x1 x2 x3
        obtain ⟨q1, q2⟩ := rankR_bounds x4 x5 x6
        generalize hr1 : rankR x1 x2 x3 = r1 at *
        generalize hr2 : rankR x4 x5 x6 = r2 at *
        generalize hv1 : verB x1 x2 x3 = v1 at *
        generalize hv2 : verB x4 x5 x6 = v2 at *
        have Hgo' : Hid (spanGo (prevLe l k) (l.drop k) = ((v1 && v2 && decide (prevLe l k ≤ r1) && decide (r1 ≤ r2)) && spanGo (prevLe l (k + 1)) (l.drop (k + 1)))) := by
          have := Hgo.out; try simp only [hr1, hr2, hv1, hv2] at this
          rw [Hpv.out]; try simp only [hr2]
          exact this
        clear Hgo hr1 hr2 hv1 hv2 Hpv
        have Hend : Hid ((v1 && v2 && decide (prevLe l k ≤ r1) && decide (r1 ≤ r2)) = false → r = false) := fun h => by rw [Hs.out, hgo.out, Hgo'.out, h]; rfl
        have Hon : Hid ((v1 && v2 && decide (prevLe l k ≤ r1) && decide (r1 ≤ r2)) = true → spanGo 0 l = spanGo (prevLe l (k + 1)) (l.drop (k + 1))) := fun h => by rw [hgo.out, Hgo'.out, h, Bool.true_and]
        clear hgo Hgo'
        have r_c0 := cell_regrown c0
        have r_c1 := cell_regrown c1
        have r_c2 := cell_regrown c2
        have r_c3 := cell_regrown c3
        have r_c4 := cell_regrown c4
        have r_c5 := cell_regrown c5
        cases v1
        · have He := Lib.hid (Hend.out rfl)
          clear Hend Hon
          go_wp2_with fail
          refine wp_region_qb (by kernel_rfl) (by kernel_rfl) ?_
          repeat (go_big_quiet_step (first | (with_reducible exact H1.out _ _) | (with_reducible exact H2.out _ _) | (with_reducible exact H3.out _ _) | (with_reducible exact H4.out _ _)))
          refine wpQuiet_nil ?_
          intro w1 B1
          go_wp2_with fail
          go_ret
          exact ⟨ret_bool He.out.symm, bot hbel B1⟩
        · cases v2
          · have He := Lib.hid (Hend.out rfl)
            clear Hend Hon
            go_wp2_with fail
            refine wp_region_qb (by kernel_rfl) (by kernel_rfl) ?_
            repeat (go_big_quiet_step (first | (with_reducible exact H1.out _ _) | (with_reducible exact H2.out _ _) | (with_reducible exact H3.out _ _) | (with_reducible exact H4.out _ _)))
            refine wpQuiet_nil ?_
            intro w1 B1
            go_wp2_with fail
            go_ret
            exact ⟨ret_bool He.out.symm, bot hbel B1⟩
          · by_cases g2 : r2 < r1
            · have He := Lib.hid (Hend.out (by simp; omega))
              clear Hend Hon
              go_wp2_with fail
              refine wp_region_qb (by kernel_rfl) (by kernel_rfl) ?_
              repeat (go_big_quiet_step (first | (with_reducible exact H1.out _ _) | (with_reducible exact H2.out _ _) | (with_reducible exact H3.out _ _) | (with_reducible exact H4.out _ _)))
              refine wpQuiet_nil ?_
              intro w1 B1
              go_wp2_with fail
              go_ret
              exact ⟨ret_bool He.out.symm, bot hbel B1⟩
            · go_wp2_with fail
              refine wp_region_qb (by kernel_rfl) (by kernel_rfl) ?_
              repeat (go_big_quiet_step (first | (with_reducible exact H1.out _ _) | (with_reducible exact H2.out _ _) | (with_reducible exact H3.out _ _) | (with_reducible exact H4.out _ _)))
              refine wpQuiet_nil ?_
              intro w1 B1
              have B2 := bot hbel B1
              clear H1 H2 H3 H4 r_c0 r_c1 r_c2 r_c3 r_c4 r_c5
              have d0 := below_cell B1 c0 (by omega)
              have d1 := below_cell B1 c1 (by omega)
              have d2 := below_cell B1 c2 (by omega)
              clear c0 c1 c2 c3 c4 c5 hbel
              cases k with
              | zero =>
                have He := Lib.hid (Hon.out (by rw [show prevLe l 0 = 0 from rfl, decide_eq_true p1, decide_eq_true (show r1 ≤ r2 by omega)]; rfl))
                clear Hend Hon B1
                have hz : ¬ (0 : Int) < ((0 : Nat) : Int) := by omega
                have r_d0 := cell_regrown d0
                have r_d1 := cell_regrown d1
                have r_d2 := cell_regrown d2
                go_wp2_with fail
                refine wp_region_qb (by kernel_rfl) (by kernel_rfl) ?_
                repeat (go_big_quiet_step (first | (with_reducible exact H5.out _ _)))
                refine wpQuiet_nil ?_
                intro w2 B3
                go_wp2_with fail
                go_roundw
                case rel => exact ⟨0 + 1, by omega, by go_num, He, bot B2 B3⟩
                case measure => simp [intOf]; omega
              | succ q =>
                have hqx : q < l.length := by omega
                obtain ⟨b', o', cs', hA', _, hbl', ⟨rfl, _, _, _, _, _, _⟩, hcell'⟩ := (hlw2.out.below B1 (fun b hb => Nat.lt_of_lt_of_le hb hbw)).elem (List.getElem?_eq_getElem hqx)
                injection hA' with hA'
                injection hA' with hb' ho' _
                subst hb' ho'
                have e3 := hcell' 3 _ rfl
                have e4 := hcell' 4 _ rfl
                have e5 := hcell' 5 _ rfl
                simp only [rSpn] at e3 e4 e5
                have Hpq := Lib.hid (prevLe_succ hqx)
                clear hcell' hlw2
                generalize l[q] = sq at *
                obtain ⟨⟨y1, y2, y3⟩, ⟨y4, y5, y6⟩⟩ := sq
                simp only at e3 e4 e5
                have H6 := Lib.hid (qcall (w := w1) (fun W _ => refRank_any y4 y5 y6 W))
                have H7 := Lib.hid (qcall (w := w1) (fun W _ => H5.out W))
                obtain ⟨t1, t2⟩ := rankR_bounds y4 y5 y6
                have Hpq' : Hid (prevLe l (q + 1) = rankR y4 y5 y6 + 2) := Hpq.out
                clear Hpq
                generalize rankR y4 y5 y6 = r3 at *
                have hw1 : IntKind.i64.wrap ((q : Int) + 1 - 1) = (q : Int) := (IntWalk.i64_in _ ⟨by omega, by omega⟩).trans (by omega)
                have hw2 : IntKind.i64.wrap (q : Int) = (q : Int) := IntWalk.i64_in _ ⟨by omega, by omega⟩
                have hw3 : IntKind.i64.wrap (r3 + 1) = r3 + 1 := IntWalk.i64_in _ ⟨by omega, by omega⟩
                have hq0 : (0 : Int) ≤ (q : Int) := by omega
                have hqn : (q : Int) < (n : Int) := by omega
                have hq1 : (0 : Int) < (q : Int) + 1 := by omega
                have hq2 : (q : Int) + 1 < (n : Int) := by omega
                have hq3 : (0 : Int) ≤ (q : Int) + 1 := by omega
                have r_d0 := cell_regrown d0
                have r_d1 := cell_regrown d1
                have r_d2 := cell_regrown d2
                have r_e3 := cell_regrown e3
                have r_e4 := cell_regrown e4
                have r_e5 := cell_regrown e5
                by_cases g1 : r1 ≤ r3 + 1
                · have He := Lib.hid (Hend.out (by rw [Hpq'.out, decide_eq_false (show ¬ r3 + 2 ≤ r1 by omega)]; rfl))
                  clear Hend Hon
                  go_wp2_with fail
                  refine wp_region_qb (by kernel_rfl) (by kernel_rfl) ?_
                  repeat (go_big_quiet_step (first | (with_reducible exact H6.out _ _) | (with_reducible exact H7.out _ _)))
                  refine wpQuiet_nil ?_
                  intro w2 B3
                  go_wp2_with fail
                  go_ret
                  exact ⟨ret_bool He.out.symm, bot B2 B3⟩
                · have He := Lib.hid (Hon.out (by rw [Hpq'.out, decide_eq_true (show r3 + 2 ≤ r1 by omega), decide_eq_true (show r1 ≤ r2 by omega)]; rfl))
                  clear Hend Hon
                  go_wp2_with fail
                  refine wp_region_qb (by kernel_rfl) (by kernel_rfl) ?_
                  repeat (go_big_quiet_step (first | (with_reducible exact H6.out _ _) | (with_reducible exact H7.out _ _)))
                  refine wpQuiet_nil ?_
                  intro w2 B3
                  go_wp2_with fail
                  go_roundw
                  case rel => exact ⟨q + 1 + 1, by omega, by go_num, He, bot B2 B3⟩
                  case measure => simp [intOf]; omega
      · have He : Hid (r = true) := by
          unfold Hid
          rw [Hs.out, hgo.out, List.drop_eq_nil_of_le (by have := Hnx.out; omega)]; rfl
        go_wp2_with fail
        go_ret
        exact ⟨ret_bool He.out.symm, hbel⟩
  · have Hs : Hid (spansB l = false) := spansB_big (by omega)
    clear hnx hl
    generalize spansB l = r at *
    have h64' : (64 : Int) < (n : Int) := by omega
    go_enter Tryz.func13, Tryz.ntmps13
    go_wp2_with fail
    go_ret
    exact ⟨ret_bool Hs.out.symm, Below.refl _ _⟩
end Go.Proofs.YtghihopmiagcpaaGreatDoor
/-
  Sets of versions in plain words: their texts.
-/
set_option autoImplicit false
set_option relaxedAutoImplicit false
set_option linter.unusedVariables false
namespace Go.Proofs.YtghihopmiagcpaaGreatDoor
open Go

def sepB : ByteArray := ⟨#[32, 124, 124, 32]⟩
def starB : ByteArray := ⟨#[42]⟩
def leB : ByteArray := ⟨#[60, 61]⟩
def geB : ByteArray := ⟨#[62, 61]⟩
def andB : ByteArray := ⟨#[32, 60, 61]⟩
def noneB : ByteArray := ⟨#[60, 48, 46, 48, 46, 48]⟩
def spaceB : ByteArray := ⟨#[32]⟩
def Ver.text (v : Ver) : ByteArray := verText v.major v.minor v.patch
def spanText (s : Spn) : ByteArray :=
  if s.lo.rank = s.hi.rank then s.lo.text
  else if s.lo.rank = 0 then (if s.hi.rank = 999999999 then starB else leB ++ s.hi.text)
  else if s.hi.rank = 999999999 then geB ++ s.lo.text
  else geB ++ s.lo.text ++ andB ++ s.hi.text
def joinB (l : List ByteArray) : ByteArray := ⟨(Lib.join (l.map (·.data.toList)) sepB.data.toList).toArray⟩
def spansText (l : List Spn) : ByteArray := if spansB l then (if l = [] then noneB else joinB (l.map spanText)) else ⟨#[]⟩

theorem join_snoc (xs : List (List UInt8)) (y sep : List UInt8) (h : xs ≠ []) : Lib.join (xs ++ [y]) sep = Lib.join xs sep ++ sep ++ y := by
  cases xs with
  | nil => exact absurd rfl h
  | cons x r =>
    rw [List.cons_append, Lib.join_cons, Lib.join_cons]
    simp [Lib.joinTail, List.append_assoc]
theorem joinB_one (s : ByteArray) : joinB [s] = s := by
  unfold joinB
  rw [List.map_cons, List.map_nil, Lib.join_one]
theorem joinB_snoc {l : List ByteArray} {s : ByteArray} (h : l ≠ []) : joinB (l ++ [s]) = joinB l ++ sepB ++ s := by
  unfold joinB
  rw [List.map_append, List.map_cons, List.map_nil, join_snoc _ _ _ (by simpa using h)]
  apply ByteArray.ext
  simp [ByteArray.data_append]

theorem verText_le (a b c : Int) : (verText a b c).size ≤ 11 := by
  have key : ∀ n : Int, 0 ≤ n → n ≤ 999 → (itoaB n).size ≤ 3 := by
    intro n h0 h1
    have : n.toNat < 1000 := by omega
    have e : itoaB n = ⟨(Lib.decDigits n.toNat).toArray⟩ := by unfold itoaB Lib.itoa; rw [if_neg (by omega)]
    rw [e]
    show (Lib.decDigits n.toNat).toArray.size ≤ 3
    simp only [List.size_toArray]
    have hd : ∀ k : Fin 1000, (Lib.decDigits k.val).length ≤ 3 := by decide +kernel
    exact hd ⟨n.toNat, this⟩
  unfold verText
  cases h : verB a b c
  · simp only [Bool.false_eq_true, if_false]
    show 0 ≤ 11; omega
  · have h' := verB_iff.1 h
    have k1 := key a (by omega) (by omega)
    have k2 := key b (by omega) (by omega)
    have k3 := key c (by omega) (by omega)
    have z : dotB.size = 1 := rfl
    simp only [if_true, ByteArray.size_append]
    omega
theorem spanText_le (s : Spn) : (spanText s).size ≤ 27 := by
  have h1 : s.lo.text.size ≤ 11 := verText_le _ _ _
  have h2 : s.hi.text.size ≤ 11 := verText_le _ _ _
  have z1 : leB.size = 2 := rfl
  have z2 : geB.size = 2 := rfl
  have z3 : andB.size = 3 := rfl
  have z4 : starB.size = 1 := rfl
  unfold spanText
  repeat' split
  all_goals (try simp only [ByteArray.size_append])
  all_goals omega
theorem joinB_le (l : List ByteArray) (h : ∀ s ∈ l, s.size ≤ 27) : (joinB l).size ≤ 31 * l.length := by
  have key : ∀ l : List ByteArray, (∀ s ∈ l, s.size ≤ 27) → (Lib.joinTail sepB.data.toList (l.map (·.data.toList))).length ≤ 31 * l.length := by
    intro l
    induction l with
    | nil => intro _; exact Nat.le_refl _
    | cons s t ih =>
      intro h
      have h1 : s.data.toList.length ≤ 27 := by have := h s (List.mem_cons_self ..); rw [Array.length_toList]; exact this
      have h2 := ih (fun x hx => h x (by simp [hx]))
      have z : sepB.data.toList.length = 4 := rfl
      simp only [Lib.joinTail, List.map_cons, List.flatten_cons, List.length_append, List.length_cons] at *
      omega
  cases l with
  | nil => exact Nat.le_refl _
  | cons s t =>
    unfold joinB
    rw [List.map_cons, Lib.join_cons]
    have h1 : s.data.toList.length ≤ 27 := by have := h s (List.mem_cons_self ..); rw [Array.length_toList]; exact this
    have h2 := key t (fun x hx => h x (by simp [hx]))
    simp only [ByteArray.size, List.size_toArray, List.length_append, List.length_cons]
    omega
theorem joinB_spans_le (l : List Spn) : (joinB (l.map spanText)).size ≤ 31 * l.length := by
  have := joinB_le (l.map spanText) (fun s hs => by
    obtain ⟨x, _, rfl⟩ := List.mem_map.1 hs
    exact spanText_le x)
  simpa using this
theorem spansText_le (l : List Spn) : (spansText l).size ≤ 2000 := by
  unfold spansText
  cases h : spansB l
  · simp only [Bool.false_eq_true, if_false]
    show 0 ≤ 2000; omega
  · have hl : l.length ≤ 64 := by simp [spansB] at h; exact h.1
    simp only [if_true]
    split
    · show 6 ≤ 2000; omega
    · have := joinB_spans_le l; omega

/-- what may be, span by span -/
theorem spanGo_mem : ∀ {l : List Spn} {le : Int}, spanGo le l = true → ∀ s ∈ l, s.lo.ok = true ∧ s.hi.ok = true ∧ s.lo.rank ≤ s.hi.rank := by
  intro l
  induction l with
  | nil => intro le _ s hs; cases hs
  | cons x l ih =>
    intro le h s hs
    simp only [spanGo, Bool.and_eq_true, decide_eq_true_eq] at h
    rcases List.mem_cons.1 hs with rfl | hs
    · exact ⟨h.1.1.1.1, h.1.1.1.2, h.1.2⟩
    · exact ih h.2 s hs
theorem spansB_mem {l : List Spn} (h : spansB l = true) : ∀ s ∈ l, s.lo.ok = true ∧ s.hi.ok = true ∧ s.lo.rank ≤ s.hi.rank := by
  simp only [spansB, Bool.and_eq_true] at h
  exact spanGo_mem h.2
theorem Ver.rank_ok {v : Ver} (h : v.ok = true) : v.rank = rankI v.major v.minor v.patch := by
  unfold Ver.rank rankR
  rw [if_pos (show verB v.major v.minor v.patch = true from h)]
end Go.Proofs.YtghihopmiagcpaaGreatDoor
/-
  The program's ranks of spans, walked.
-/
set_option autoImplicit false
set_option relaxedAutoImplicit false
set_option linter.unusedVariables false
set_option linter.unusedSimpArgs false
namespace Go.Proofs.YtghihopmiagcpaaGreatDoor
open Go.Rows Go.RowKit Go.Shelf Go.Sort

def rRnk : Rp (Int × Int) where
  size := 2
  holds := fun _ _ x cs => cs = [.int .i64 x.1, .int .i64 x.2] ∧ I64 x.1 ∧ I64 x.2
  len := fun ⟨h, _⟩ => by rw [h]; rfl
  one := fun ⟨h, _⟩ => by rw [h]; simp [Value.oneCell']
  mono := fun h _ => h
theorem elt_rnk : Elt Tryz.prog 59 2 16 := Elt.mk' (z := .agg #[.int .i64 0, .int .i64 0]) (by kernel_rfl) rfl (by decide)

theorem bgrown {α : Type} {r : Rp α} {w W W' : World} {e : TypeId} {v : Value} {l : List α} {S : Nat → Prop} (h : Below w.heap.size w W) (hg : W.grownBy W' v.ownBlock) {B : Nat} (hown : Own r W B e v l S) (hB : w.heap.size ≤ B) : Below w.heap.size w W' :=
  h.grown hg h.size (fun g' hg' => Nat.le_trans hB (hown.lt g' hg').1)

theorem Own.slvB {α : Type} {r : Rp α} {w : World} {base : Nat} {e : TypeId} {v : Value} {l : List α} (h : Own r w base e v l (fun _ => False)) : SlV r w (fun b => base ≤ b) l v :=
  h.slv.more fun b hb _ => by rcases hb with h | h; exact h.elim; exact h
set_option maxHeartbeats 1000000 in
theorem numbersO_any (A : Option Addr) (n c : Nat) (l : List Spn) (w : World) (S : Nat → Prop) (hmax : l.length ≤ 1000000000) (hl : SlV rSpn w S l (.slice A n c)) :
    Calls Tryz.prog 49 #[.slice A n c] w fun e w' => ∃ v, e = .returned v ∧ Own rRnk w' w.heap.size 59 v (l.map fun s => (s.lo.rank, s.hi.rank)) (fun _ => False) ∧ Below w.heap.size w w' := by
  have hnx := hl.n_eq
  have hl' := hl.more (S' := fun b => b < w.heap.size) fun b _ hlt => hlt
  have hn63 : n ≤ 1000000000 := by omega
  have Hnx := Lib.hid hnx; clear hnx
  clear hl
  go_enter Tryz.func49, Tryz.ntmps49
  go_wp2_with fail
  go_loopw [3, 12] (fun v i wr => ∃ (k : Nat), k ≤ n ∧ i = .int .i64 k ∧ Hid (Own rRnk wr w.heap.size 59 v ((l.take k).map fun s => (s.lo.rank, s.hi.rank)) (fun _ => False)) ∧ Below w.heap.size w wr) (fun _ i _ => n - (intOf i).toNat)
  case atStart => exact ⟨0, Nat.zero_le _, rfl, Own.nil_ _ _ _ _ (fun b hb => hb.elim), Below.refl _ _⟩
  case round =>
    obtain ⟨k, hk, rfl, Hown, hbel⟩ := hrel
    by_cases hlt : k < n
    · have hkx : k < l.length := by have := Hnx.out; omega
      have hlw := hl'.below hbel (fun b hb => hb)
      have hbw := hbel.size
      obtain ⟨b, o, cs, rfl, hSb, hbl, hsp, hcell⟩ := hlw.elem (List.getElem?_eq_getElem hkx)
      obtain ⟨rfl, _, _, _, _, _, _⟩ := hsp
      have c0 := hcell 0 _ rfl
      have c1 := hcell 1 _ rfl
      have c2 := hcell 2 _ rfl
      have c3 := hcell 3 _ rfl
      have c4 := hcell 4 _ rfl
      have c5 := hcell 5 _ rfl
      simp only [rSpn, Nat.add_zero, Nat.mul_one] at c0 c1 c2 c3 c4 c5
      clear hcell
      have Htk : Hid ((l.take (k + 1)).map (fun s => (s.lo.rank, s.hi.rank)) = (l.take k).map (fun s => (s.lo.rank, s.hi.rank)) ++ [(l[k].lo.rank, l[k].hi.rank)]) := by
        unfold Hid; rw [List.take_succ_eq_append_getElem hkx, List.map_append]; rfl
      have hlen : ((l.take k).map fun s => (s.lo.rank, s.hi.rank)).length = k := by simp; omega
      clear hlw
      have hkn : (k : Int) < (n : Int) := by omega
      generalize l[k] = s at *
      obtain ⟨⟨x1, x2, x3⟩, ⟨x4, x5, x6⟩⟩ := s
      simp only at c0 c1 c2 c3 c4 c5
      have H1 := Lib.hid (fun W => versRank_any x1 x2 x3 W)
      have H2 := Lib.hid (fun W => versRank_any x4 x5 x6 W)
      obtain ⟨p1, p2⟩ := rankR_bounds x1 x2 x3
      obtain ⟨q1, q2⟩ := rankR_bounds x4 x5 x6
      have Htk' : Hid ((l.take (k + 1)).map (fun s => (s.lo.rank, s.hi.rank)) = (l.take k).map (fun s => (s.lo.rank, s.hi.rank)) ++ [(rankR x1 x2 x3, rankR x4 x5 x6)]) := Htk.out
      clear Htk
      generalize (l.take k).map (fun s => (s.lo.rank, s.hi.rank)) = done at *
      generalize rankR x1 x2 x3 = r1 at *
      generalize rankR x4 x5 x6 = r2 at *
      generalize verB x1 x2 x3 = v1 at *
      generalize verB x4 x5 x6 = v2 at *
      have Hlen := Lib.hid hlen; clear hlen
      go_wp2_with fail
      refine (H1.out _).mono ?_
      rintro e w1 ⟨rfl, hb1⟩
      have e3 := hb1.cell (p := ⟨wr.heap.size, 3, none⟩) (by simp)
      have e4 := hb1.cell (p := ⟨wr.heap.size, 4, none⟩) (by simp)
      have e5 := hb1.cell (p := ⟨wr.heap.size, 5, none⟩) (by simp)
      simp [go_sem] at e3 e4 e5
      have Hb1 := Lib.hid (bnew hb1)
      clear hb1
      go_wp2_with fail
      refine (H2.out _).mono ?_
      rintro e w2 ⟨rfl, hb2⟩
      have Hb2 := Lib.hid (bot Hb1.out hb2)
      clear hb2 e3 e4 e5 c0 c1 c2 c3 c4 c5
      have HB := Lib.hid (bot hbel Hb2.out)
      have Hown2 := Lib.hid (Hown.out.keep Hb2.out)
      have hw2 := HB.out.size
      go_wp2_with (at_builtin; refine wpList_push (by rfl) _ _ _ (by rfl) elt_rnk Tryz.underlying54 (by rfl) (Hown2.out.alloc _) ⟨w2.heap.size, 0, none⟩ 1 [.int .i64 r1, .int .i64 r2] (r1, r2) (by rfl) ⟨rfl, ⟨by omega, by omega⟩, by omega, by omega⟩ (news_of w2 #[.int .i64 r1, .int .i64 r2] _) (by rw [Hlen.out]; unfold maxLen; omega) (by rw [Hlen.out]; omega) (by simp; omega) (w2.heap.size + 1) (by simp) ?_)
      intro g cap w3 hown3 hgrow hat hg3
      have HB3 := Lib.hid (bgrown (bal HB.out _) hgrow (Hown2.out.alloc _) (Nat.le_refl _))
      have Hown3 := Lib.hid hown3
      clear hown3 hgrow
      go_wp2_with fail
      go_roundw
      case rel => exact ⟨k + 1, by omega, by go_num, by unfold Hid; rw [Htk'.out]; exact Hown3.out, HB3.out⟩
      case measure => simp [intOf]; omega
    · have hkn : k = l.length := by have := Hnx.out; omega
      have hs := Hown.out
      rw [hkn, List.take_length] at hs
      clear hkn
      go_wp2_with fail
      go_ret
      exact ⟨_, rfl, hs, hbel⟩
theorem numbers_any (A : Option Addr) (n c : Nat) (l : List Spn) (w : World) (S : Nat → Prop) (hmax : l.length ≤ 1000000000) (hl : SlV rSpn w S l (.slice A n c)) :
    Calls Tryz.prog 49 #[.slice A n c] w fun e w' => ∃ v, e = .returned v ∧ SlV rRnk w' (fun b => w.heap.size ≤ b) (l.map fun s => (s.lo.rank, s.hi.rank)) v ∧ Below w.heap.size w w' :=
  (numbersO_any A n c l w S hmax hl).mono fun e w' ⟨v, he, ho, hb⟩ => ⟨v, he, ho.slvB, hb⟩
end Go.Proofs.YtghihopmiagcpaaGreatDoor
